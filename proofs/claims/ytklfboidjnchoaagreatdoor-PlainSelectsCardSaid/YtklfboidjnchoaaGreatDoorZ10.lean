/-
  Parts of the proof: PDel, PWake, POrd, PPut.
-/
import Derived.LaidEqlPtr
import Derived.Deep.RegionHeld
import Derived.KernelRfl
import Derived.Test.YtklfboidjnchoaaGreatDoorZ1
import Derived.Test.YtklfboidjnchoaaGreatDoorZ9
namespace Go.Proofs.YtklfboidjnchoaaGreatDoor
open Go.RowKit Go.Proofs.YtklfboidjnchoaaGreatDoorW.PrintWords
set_option linter.unusedVariables false
set_option linter.unusedSimpArgs false
def ptrs (l : List Nat) : List Value := l.map fun b => .pointer (some ⟨b, 0, none⟩)
theorem ptrs_len (l : List Nat) : (ptrs l).length = l.length := List.length_map ..
theorem ptrs_get {l : List Nat} {k x : Nat} (h : l[k]? = some x) : (ptrs l)[k]? = some (.pointer (some ⟨x, 0, none⟩)) := by unfold ptrs; rw [List.getElem?_map, h]; rfl
theorem ptrs_append (a b : List Nat) : ptrs (a ++ b) = ptrs a ++ ptrs b := List.map_append ..
def but (l : List Nat) (t : Nat) : List Nat := l.filter (· != t)
theorem but_le (l : List Nat) (t : Nat) : (but l t).length ≤ l.length := List.length_filter_le _ _
theorem but_append (a b : List Nat) (t : Nat) : but (a ++ b) t = but a t ++ but b t := List.filter_append ..
theorem but_all {l : List Nat} {t : Nat} (h : ∀ y ∈ l, y ≠ t) : but l t = l := by
  unfold but
  rw [List.filter_eq_self]
  intro y hy
  simpa using h y hy
theorem but_step {l : List Nat} {j x t : Nat} (hx : l[j]? = some x) : but (l.take (j + 1)) t = but (l.take j) t ++ but [x] t := by
  rw [List.take_add_one, hx, but_append]
  rfl
def idxB (l : List Nat) (t : Nat) : Int := if t ∈ l then (l.idxOf t : Int) else -1
theorem idxB_found {l : List Nat} {t k : Nat} (h : ∀ y ∈ l.take k, y ≠ t) (hx : l[k]? = some t) : idxB l t = k := by
  have hm : t ∈ l := List.mem_of_getElem? hx
  have hk : k < l.length := (List.getElem?_eq_some_iff.1 hx).1
  unfold idxB
  rw [if_pos hm]
  have e : l = l.take k ++ t :: l.drop (k + 1) := by
    have h1 := (List.getElem?_eq_some_iff.1 hx).2
    have h2 := List.drop_eq_getElem_cons hk
    rw [h1] at h2
    rw [← h2, List.take_append_drop]
  have hn : t ∉ l.take k := fun hc => h t hc rfl
  have : l.idxOf t = k := by
    rw [e, List.idxOf_append, if_neg hn]
    simp
    omega
  rw [this]
theorem idxB_none {l : List Nat} {t : Nat} (h : ∀ y ∈ l, y ≠ t) : idxB l t = -1 := by
  unfold idxB
  rw [if_neg (fun hc => h t hc rfl)]
theorem first_eq {l : List Nat} {t k : Nat} (h : idxB l t = k) : l[k]? = some t ∧ ∀ y ∈ l.take k, y ≠ t := by
  unfold idxB at h
  split at h
  · rename_i hm
    have hk : l.idxOf t = k := by omega
    have hl : l.idxOf t < l.length := List.idxOf_lt_length_of_mem hm
    subst hk
    refine ⟨?_, fun y hy => ?_⟩
    · rw [List.getElem?_eq_getElem hl, List.getElem_idxOf hl]
    · rintro rfl
      obtain ⟨j, hj, e⟩ := List.mem_take_iff_getElem.1 hy
      have := List.not_of_lt_findIdx (p := (· == y)) (xs := l) (i := j) (by unfold List.idxOf at hj; omega)
      simp at this
      exact this e
  · omega
theorem put1_take (L : List Value) (x : Value) (i : Nat) (hi : i < L.length) : (L.take i ++ [x] ++ L.drop (i + 1)).take (i + 1) = L.take i ++ [x] := by
  have h : (L.take i ++ [x]).length = i + 1 := by rw [List.length_append, List.length_take]; simp; omega
  rw [← h, List.take_left]
theorem put1_get (L : List Value) (x : Value) (i p : Nat) (hi : i < L.length) (hp : i < p) : (L.take i ++ [x] ++ L.drop (i + 1))[p]? = L[p]? := by
  have h : (L.take i ++ [x]).length = i + 1 := by rw [List.length_append, List.length_take]; simp; omega
  rw [List.getElem?_append_right (by omega), h, List.getElem?_drop]
  congr 1
  omega
def IsBlk (w : World) (b : Nat) : Prop := ∃ cs t, w.heap[b]? = some (.cells cs t (0, 0))
theorem IsBlk.keep {S : Nat → Prop} {w w' : World} {b : Nat} (h : IsBlk w b) (hk : Keep S w w') (hs : S b → IsBlk w' b) : IsBlk w' b := by
  by_cases e : S b
  · exact hs e
  · obtain ⟨cs, t, h⟩ := h
    exact ⟨cs, t, (hk.block b (blk_lt h) e).trans h⟩
theorem IsBlk.below {w w' : World} {b : Nat} (h : IsBlk w b) (hb : Below w.heap.size w w') : IsBlk w' b := h.keep (S := fun _ => False) (.of_below hb) (fun h => h.elim)
theorem info_of {P : Program} {e : TypeId} {n : Nat} (h : (P.info? e).map (·.size) = some n) : ∃ j, P.info? e = some j ∧ j.size = n := by
  cases hj : P.info? e with
  | none => rw [hj] at h; cases h
  | some j => rw [hj] at h; exact ⟨j, rfl, Option.some.inj h⟩
theorem eql_blk {P : Program} {tp te : TypeId} {n : Nat} (hp : P.underlying tp = some (.pointer te)) (hte : (P.info? te).map (·.size) = some (n + 1)) {w : World} {a b : Nat} (ha : IsBlk w a) (hb : IsBlk w b) :
    (binOp .eql tp (.pointer (some ⟨a, 0, none⟩)) (.pointer (some ⟨b, 0, none⟩))).run P w = .ok (.bool (decide (a = b))) w := by
  obtain ⟨j, hj, hs⟩ := info_of hte
  by_cases h : a = b
  · subst h
    rw [run_eql_ptr_same w _ hp hj]
    simp
  · obtain ⟨ca, ta, ha⟩ := ha
    obtain ⟨cb, tb, hb⟩ := hb
    rw [run_eql_ptr_other w hp hj (by omega) (fun e => h (by injection e)) ha hb]
    simp [h]
theorem sizeW : (Tryz.prog.info? 172).map (·.size) = some (4 + 1) := by kernel_rfl
theorem sizeG : (Tryz.prog.info? 98).map (·.size) = some (8 + 1) := by kernel_rfl
set_option maxRecDepth 100000 in
set_option maxHeartbeats 400000 in
theorem dWClo_any (b t pb : Nat) (w : World) (hb : IsBlk w b) (ht : IsBlk w t) (hp : w.cell? ⟨pb, 0, none⟩ = some (.pointer (some ⟨t, 0, none⟩))) :
    Calls Tryz.prog 120 #[.pointer (some ⟨b, 0, none⟩), .pointer (some ⟨pb, 0, none⟩)] w fun e w' => e = .returned (.bool (decide (b = t))) ∧ w' = w := by
  have he := eql_blk (P := Tryz.prog) Tryz.underlying132 sizeW hb ht
  go_enter Tryz.func120, Tryz.ntmps120
  go_wp2
  go_ret
  exact ⟨rfl, rfl⟩
set_option maxRecDepth 100000 in
set_option maxHeartbeats 800000 in
theorem dWIx_any (ao : Option Addr) (n c pb t : Nat) (l : List Nat) (w : World) (hr : RowAt w ao (ptrs l)) (hn : l.length = n) (hmax : n ≤ 1000000) (hbl : ∀ y ∈ l, IsBlk w y) (ht : IsBlk w t) (hp : w.cell? ⟨pb, 0, none⟩ = some (.pointer (some ⟨t, 0, none⟩))) :
    Calls Tryz.prog 130 #[.slice ao n c, .func (.func 120) #[] #[.pointer (some ⟨pb, 0, none⟩)]] w fun e w' => e = .returned (.int .i64 (idxB l t)) ∧ w' = w := by
  have Hn := hidP hn
  have HBL := hidP hbl
  have HT := hidP ht
  clear hn hbl ht
  go_enter Tryz.func130, Tryz.ntmps130
  go_wp2_with fail
  go_loopw [8] (fun v wr => ∃ k : Nat, v = .int .i64 k ∧ k ≤ n ∧ Hid (∀ y ∈ l.take k, y ≠ t) ∧ wr = w) (fun v _ => n - (intOf v).toNat)
  case atStart => exact ⟨0, rfl, by omega, by show ∀ y ∈ l.take 0, _; simp, rfl⟩
  case round =>
    obtain ⟨k, rfl, hk, HK, rfl⟩ := hrel
    by_cases hlt : k < n
    · obtain ⟨b, o, rfl, hca⟩ := hr.addr (by rw [ptrs_len, Hn.out]; omega)
      obtain ⟨x, hx⟩ : ∃ x, l[k]? = some x := ⟨_, List.getElem?_eq_getElem (by rw [Hn.out]; omega)⟩
      have cx : wr.cell? ⟨b, o + k, none⟩ = some (.pointer (some ⟨x, 0, none⟩)) := hca k _ (ptrs_get hx)
      have HX := hidP hx
      have HC := hidP (dWClo_any x t pb wr (HBL.out x (List.mem_of_getElem? hx)) HT.out hp)
      clear hx hca
      by_cases hd : x = t
      · have hd' : decide (x = t) = true := by simpa using hd
        have HD := hidP hd
        clear hd
        go_wp2_with (go_at_call 120; refine HC.out.mono ?_; rw [hd']; rintro e w1 ⟨rfl, hw⟩; subst hw)
        go_ret
        have hxe := HX.out
        rw [HD.out] at hxe
        exact ⟨by rw [idxB_found HK.out hxe]; rfl, rfl⟩
      · have hd' : decide (x = t) = false := by simpa using hd
        have HD := hidP hd
        clear hd
        go_wp2_with (go_at_call 120; refine HC.out.mono ?_; rw [hd']; rintro e w1 ⟨rfl, hw⟩; subst hw)
        have hK2 : Hid (∀ y ∈ l.take (k + 1), y ≠ t) := by
          intro y hy
          rw [List.take_add_one, HX.out] at hy
          rcases List.mem_append.1 hy with h | h
          · exact HK.out y h
          · simp at h
            subst h
            exact HD.out
        go_roundw
        case rel => exact ⟨k + 1, by go_num, by omega, hK2, by first | rfl | trivial⟩
        case measure => simp [intOf]; omega
    · have hall : ∀ y ∈ l, y ≠ t := by
        intro y hy
        exact HK.out y (by rw [List.take_of_length_le (by rw [Hn.out]; omega)]; exact hy)
      have HA := hidP hall
      clear hall
      go_wp2
      go_ret
      exact ⟨by rw [idxB_none HA.out]; rfl, rfl⟩
set_option maxRecDepth 100000 in
set_option maxHeartbeats 1600000 in
theorem dWDel_any (g n c pb t : Nat) (l : List Nat) (cur : Array Value) (w : World) (hg : w.heap[g]? = some (.cells cur 132 (0, 0))) (hcz : cur.size = c) (htk : cur.toList.take n = ptrs l) (hn : l.length = n) (hnc : n ≤ c) (hc : c ≤ maxLen) (hmax : n ≤ 1000000) (hbl : ∀ y ∈ l, IsBlk w y) (ht : IsBlk w t)
    (hp : w.cell? ⟨pb, 0, none⟩ = some (.pointer (some ⟨t, 0, none⟩))) (hpg : pb ≠ g) :
    Calls Tryz.prog 119 #[.slice (some ⟨g, 0, none⟩) n c, .func (.func 120) #[] #[.pointer (some ⟨pb, 0, none⟩)]] w fun e w' =>
      e = .returned (.slice (some ⟨g, 0, none⟩) (but l t).length c) ∧ (∃ cur', w'.heap[g]? = some (.cells cur' 132 (0, 0)) ∧ cur'.size = c ∧ cur'.toList.take (but l t).length = ptrs (but l t)) ∧ Keep (fun k => k = g) w w' := by
  have hr : RowAt w (some ⟨g, 0, none⟩) (ptrs l) := by
    refine .inr ⟨g, 0, rfl, fun j u hj => ?_⟩
    rw [Nat.zero_add, block_cell hg j, ← Array.getElem?_toList]
    rw [← htk, List.getElem?_take] at hj
    split at hj
    · exact hj
    · cases hj
  have hix := dWIx_any (some ⟨g, 0, none⟩) n c pb t l w hr hn hmax hbl ht hp
  by_cases hall : ∀ y ∈ l, y ≠ t
  · rw [idxB_none hall] at hix
    have hv := but_all hall
    have Hg := hidP hg
    have Htk := hidP htk
    have Hcz := hidP hcz
    rw [hv, hn]
    clear hall hg htk hcz hr
    go_enter Tryz.func119, Tryz.ntmps119
    go_wp2_with (go_at_call 130; refine hix.mono ?_; rintro e w1 ⟨rfl, hw⟩; subst hw)
    go_ret
    exact ⟨rfl, ⟨cur, Hg.out, Hcz.out, Htk.out⟩, .refl _ _⟩
  · obtain ⟨k, hk⟩ : ∃ k : Nat, idxB l t = k := by
      refine ⟨l.idxOf t, ?_⟩
      unfold idxB
      rw [if_pos]
      exact Classical.byContradiction fun hc => hall fun y hy e => hc (e ▸ hy)
    rw [hk] at hix
    obtain ⟨hx0, hpre⟩ := first_eq hk
    have hkn : k < n := by rw [← hn]; exact (List.getElem?_eq_some_iff.1 hx0).1
    have hne : ¬ ((k : Int) = -1) := by omega
    have Hn := hidP hn
    have HA0 : Hid (ptrs (but (l.take (k + 1)) t) = cur.toList.take k ∧ (but (l.take (k + 1)) t).length = k) := by
      have e1 : but (l.take (k + 1)) t = l.take k := by
        rw [List.take_add_one, hx0, but_append, but_all hpre]
        simp [but]
      refine ⟨?_, by rw [e1, List.length_take]; omega⟩
      rw [e1]
      have : (ptrs l).take k = ptrs (l.take k) := by unfold ptrs; rw [List.map_take]
      rw [← this, ← htk, List.take_take]
      congr 1
      omega
    have HB0 : Hid (∀ p, p < n → cur.toList[p]? = (ptrs l)[p]?) := fun p hp => by rw [← htk, List.getElem?_take, if_pos hp]
    have Hg := hidP hg
    have Hcz := hidP hcz
    have HP := hidP hp
    have HBL := hidP hbl
    have HT := hidP ht
    clear hg htk hcz hall hk hx0 hpre hr hn hp hbl ht
    unfold maxLen at hc
    go_enter Tryz.func119, Tryz.ntmps119
    go_wp2_with (go_at_call 130; refine hix.mono ?_; rintro e w1 ⟨rfl, hw⟩; subst hw)
    go_loopw [5, 6] (fun v5 v6 wr => ∃ (i j : Nat) (cur' : Array Value), v5 = .int .i64 i ∧ v6 = .int .i64 j ∧ i < j ∧ j ≤ n ∧ Hid (wr.heap[g]? = some (.cells cur' 132 (0, 0))) ∧ Hid (cur'.size = c) ∧
        Hid (ptrs (but (l.take j) t) = cur'.toList.take i ∧ (but (l.take j) t).length = i) ∧ Hid (∀ p, j ≤ p → p < n → cur'.toList[p]? = (ptrs l)[p]?) ∧ Keep (fun k => k = g) w1 wr) (fun _ v _ => n - (intOf v).toNat)
    case atStart => exact ⟨k, k + 1, cur, rfl, by go_num, by omega, by omega, Hg, Hcz, HA0, fun p _ hp => HB0.out p hp, .refl _ _⟩
    case round =>
      obtain ⟨i, j, cur', rfl, rfl, hij, hjn, HG, HZ, HA, HB, hk'⟩ := hrel
      by_cases hlt : j < n
      · obtain ⟨x, hx⟩ : ∃ x, l[j]? = some x := ⟨_, List.getElem?_eq_getElem (by rw [Hn.out]; omega)⟩
        have x0 : wr.cell? ⟨g, j, none⟩ = some (.pointer (some ⟨x, 0, none⟩)) := by rw [block_cell HG.out, ← Array.getElem?_toList, HB.out _ (by omega) (by omega)]; exact ptrs_get hx
        have hpr := Keep.cell (p := ⟨pb, 0, none⟩) hk' hpg HP.out
        have hbk : ∀ y, IsBlk w1 y → IsBlk wr y := fun y h => h.keep hk' (fun e => ⟨cur', _, e ▸ HG.out⟩)
        have hh := dWClo_any x t pb wr (hbk x (HBL.out x (List.mem_of_getElem? hx))) (hbk t HT.out) hpr
        have HH := hidP hh
        have HX := hidP hx
        clear hh hx hpr hbk
        by_cases hd : x = t
        · have hd' : decide (x = t) = true := by simpa using hd
          rw [hd'] at HH
          have hv1 : but [x] t = [] := by simp [but, hd]
          have hst := but_step (t := t) HX.out
          rw [hv1, List.append_nil] at hst
          have HST := hidP hst
          clear hd hd' hv1 hst
          go_wp2_with (go_at_call 120; refine HH.out.mono ?_; rintro e w2 ⟨rfl, hw⟩; subst hw)
          refine ⟨?_, ?measure⟩
          (repeat apply Exists.intro)
          refine ⟨?rel, rfl⟩
          case rel => exact ⟨i, j + 1, cur', rfl, by go_num, by omega, by omega, HG, HZ, ⟨by rw [HST.out]; exact HA.out.1, by rw [HST.out]; exact HA.out.2⟩, fun p hp1 hp2 => HB.out p (by omega) hp2, hk'⟩
          case measure => simp [intOf]; omega
        · have hd' : decide (x = t) = false := by simpa using hd
          rw [hd'] at HH
          have hv1 : but [x] t = [x] := by simp [but, hd]
          have hst := but_step (t := t) HX.out
          rw [hv1] at hst
          have HST := hidP hst
          have hzz := HZ.out
          have f0 := frozen_of_row wr g i _ _ HG.out
          obtain ⟨d0, e0⟩ : ∃ u, wr.cell? ⟨g, i, none⟩ = some u := ⟨_, (block_cell HG.out i).trans (Array.getElem?_eq_getElem (by omega))⟩
          clear hd hd' hv1 hst hzz
          go_wp2_with (go_at_call 120; refine HH.out.mono ?_; rintro e w2 ⟨rfl, hw⟩; subst hw)
          have hsc := heap_setCells g 132 [.pointer (some ⟨x, 0, none⟩)] i cur' w2 HG.out (by have := HZ.out; simp; omega)
          have hl : i < cur'.toList.length := by have := HZ.out; simp; omega
          refine ⟨?_, ?measure⟩
          (repeat apply Exists.intro)
          refine ⟨?rel, rfl⟩
          case measure => simp [intOf]; omega
          refine ⟨i + 1, j + 1, _, by go_num, by go_num, by omega, by omega, hsc, ?_, ⟨?_, ?_⟩, ?_, ?_⟩
          · show _ = _
            have := HZ.out
            simp
            omega
          · rw [HST.out, ptrs_append, HA.out.1, List.toList_toArray]
            exact (put1_take _ _ _ hl).symm
          · rw [HST.out, List.length_append, HA.out.2]
            rfl
          · intro p hp1 hp2
            rw [List.toList_toArray]
            refine (put1_get _ _ _ _ hl (by omega)).trans ?_
            exact HB.out p (by omega) hp2
          · exact hk'.setCell (p := ⟨g, i, none⟩) rfl _
      · obtain rfl : j = n := by omega
        have hin : i < j := hij
        have hlt2 : (l.take j) = l := List.take_of_length_le (by rw [Hn.out]; omega)
        have hA := HA.out
        rw [hlt2] at hA
        obtain ⟨hA1, hA2⟩ := hA
        have hzl : (Builtin.zeroCells (Value.pointer none).cells (j - i)).toList.length = j - i := by
          simp [Builtin.zeroCells, Value.cells]
        have hcl := fun ty => run_clear_row (P := Tryz.prog) (n := j - i) wr 96 132 ty (.pointer none) Tryz.underlying96 (fun w => by simp [Tryz.zeroValue132]) (fun v hv => by
          simp only [Builtin.zeroCells, Array.toList_map, List.mem_map] at hv
          obtain ⟨a, _, rfl⟩ := hv
          have h1 : a % 1 = 0 := by omega
          simp [Value.cells, h1, Value.oneCell']) g i (c - i) (by omega) (fun q hq => by
            rw [hzl] at hq
            rw [block_cell HG.out, Array.getElem?_eq_getElem (by have := HZ.out; omega)]
            rfl) (fun q hq => frozen_of_row wr g _ _ _ HG.out)
        have hsc := heap_setCells g 132 (Builtin.zeroCells (Value.pointer none).cells (j - i)).toList i cur' wr HG.out (by rw [hzl]; have := HZ.out; omega)
        have hcA : cutA (some ⟨g, 0, none⟩) i c 1 = some ⟨g, i, none⟩ := by unfold cutA; rw [if_neg (by omega)]; simp [Addr.add_lit]
        generalize (Builtin.zeroCells (Value.pointer none).cells (j - i)).toList = Z at *
        have HSC := hidP hsc
        have HZL := hidP hzl
        have HA1 := hidP hA1
        have HA2 := hidP hA2
        clear hsc hzl hA1 hA2 hlt2
        go_wp2
        go_ret
        have hm : i = (but l t).length := HA2.out.symm
        have hz := HZ.out
        have hzl := HZL.out
        refine ⟨by rw [← hm]; rfl, ⟨_, HSC.out, by simp; omega, ?_⟩, hk'.trans ((Keep.refl (fun k => k = g) wr).setCells rfl _ _)⟩
        rw [List.toList_toArray, ← hm, HA1.out, List.append_assoc, List.take_append_of_le_length (by rw [List.length_take]; simp; omega), List.take_of_length_le (by rw [List.length_take]; omega)]
theorem dWOwn_any (B : Nat) (v : Value) (n pb t : Nat) (l : List Nat) (w : World) (ho : w.ownsRow B 132 1 v n (ptrs l)) (hmax : n ≤ 1000000) (hbl : ∀ y ∈ l, IsBlk w y) (ht : IsBlk w t) (hp : w.cell? ⟨pb, 0, none⟩ = some (.pointer (some ⟨t, 0, none⟩))) (hpg : v.ownBlock ≠ some pb) :
    Calls Tryz.prog 119 #[v, .func (.func 120) #[] #[.pointer (some ⟨pb, 0, none⟩)]] w fun e w' =>
      ∃ ao c, e = .returned (.slice ao (but l t).length c) ∧ w'.ownsRow B 132 1 (.slice ao (but l t).length c) (but l t).length (ptrs (but l t)) ∧ Keep (fun k => v.ownBlock = some k) w w' ∧ (Value.slice ao (but l t).length c).ownBlock = v.ownBlock := by
  have hn : l.length = n := by have := ho.1; rw [ptrs_len] at this; simpa using this
  rcases ho.2 with ⟨rfl, h0⟩ | ⟨g, cap, cur, rfl, hb, hg, h1, h2, h3, h4⟩
  · subst h0
    obtain rfl : l = [] := List.eq_nil_of_length_eq_zero hn
    have hix := dWIx_any none 0 0 pb t [] w (.nil w none) rfl (by omega) (by simp) ht hp
    rw [idxB_none (by simp)] at hix
    go_enter Tryz.func119, Tryz.ntmps119
    go_wp2_with (go_at_call 130; refine hix.mono ?_; rintro e w1 ⟨rfl, hw⟩; subst hw)
    go_ret
    exact ⟨none, 0, rfl, World.ownsRow_nil _ _ _ _, .refl _ _, rfl⟩
  · rw [Nat.mul_one] at h3 h4
    refine (dWDel_any g n cap pb t l cur w hg h3 h4 hn h1 h2 hmax hbl ht hp (fun e => hpg (by rw [e]; rfl))).mono ?_
    rintro e w' ⟨rfl, ⟨cur', h5, h6, h7⟩, hk⟩
    refine ⟨_, cap, rfl, ⟨by rw [ptrs_len, Nat.mul_one], .inr ⟨g, cap, cur', rfl, hb, h5, by have := but_le l t; omega, h2, by rw [Nat.mul_one]; exact h6, by rw [Nat.mul_one]; exact h7⟩⟩, hk.mono (fun k _ e => by rw [e]; rfl), rfl⟩
set_option maxRecDepth 100000 in
set_option maxHeartbeats 400000 in
theorem dGClo_any (b t pb : Nat) (w : World) (hb : IsBlk w b) (ht : IsBlk w t) (hp : w.cell? ⟨pb, 0, none⟩ = some (.pointer (some ⟨t, 0, none⟩))) :
    Calls Tryz.prog 118 #[.pointer (some ⟨b, 0, none⟩), .pointer (some ⟨pb, 0, none⟩)] w fun e w' => e = .returned (.bool (decide (b = t))) ∧ w' = w := by
  have he := eql_blk (P := Tryz.prog) Tryz.underlying95 sizeG hb ht
  go_enter Tryz.func118, Tryz.ntmps118
  go_wp2
  go_ret
  exact ⟨rfl, rfl⟩
set_option maxRecDepth 100000 in
set_option maxHeartbeats 800000 in
theorem dGIx_any (ao : Option Addr) (n c pb t : Nat) (l : List Nat) (w : World) (hr : RowAt w ao (ptrs l)) (hn : l.length = n) (hmax : n ≤ 1000000) (hbl : ∀ y ∈ l, IsBlk w y) (ht : IsBlk w t) (hp : w.cell? ⟨pb, 0, none⟩ = some (.pointer (some ⟨t, 0, none⟩))) :
    Calls Tryz.prog 129 #[.slice ao n c, .func (.func 118) #[] #[.pointer (some ⟨pb, 0, none⟩)]] w fun e w' => e = .returned (.int .i64 (idxB l t)) ∧ w' = w := by
  have Hn := hidP hn
  have HBL := hidP hbl
  have HT := hidP ht
  clear hn hbl ht
  go_enter Tryz.func129, Tryz.ntmps129
  go_wp2_with fail
  go_loopw [8] (fun v wr => ∃ k : Nat, v = .int .i64 k ∧ k ≤ n ∧ Hid (∀ y ∈ l.take k, y ≠ t) ∧ wr = w) (fun v _ => n - (intOf v).toNat)
  case atStart => exact ⟨0, rfl, by omega, by show ∀ y ∈ l.take 0, _; simp, rfl⟩
  case round =>
    obtain ⟨k, rfl, hk, HK, rfl⟩ := hrel
    by_cases hlt : k < n
    · obtain ⟨b, o, rfl, hca⟩ := hr.addr (by rw [ptrs_len, Hn.out]; omega)
      obtain ⟨x, hx⟩ : ∃ x, l[k]? = some x := ⟨_, List.getElem?_eq_getElem (by rw [Hn.out]; omega)⟩
      have cx : wr.cell? ⟨b, o + k, none⟩ = some (.pointer (some ⟨x, 0, none⟩)) := hca k _ (ptrs_get hx)
      have HX := hidP hx
      have HC := hidP (dGClo_any x t pb wr (HBL.out x (List.mem_of_getElem? hx)) HT.out hp)
      clear hx hca
      by_cases hd : x = t
      · have hd' : decide (x = t) = true := by simpa using hd
        have HD := hidP hd
        clear hd
        go_wp2_with (go_at_call 118; refine HC.out.mono ?_; rw [hd']; rintro e w1 ⟨rfl, hw⟩; subst hw)
        go_ret
        have hxe := HX.out
        rw [HD.out] at hxe
        exact ⟨by rw [idxB_found HK.out hxe]; rfl, rfl⟩
      · have hd' : decide (x = t) = false := by simpa using hd
        have HD := hidP hd
        clear hd
        go_wp2_with (go_at_call 118; refine HC.out.mono ?_; rw [hd']; rintro e w1 ⟨rfl, hw⟩; subst hw)
        have hK2 : Hid (∀ y ∈ l.take (k + 1), y ≠ t) := by
          intro y hy
          rw [List.take_add_one, HX.out] at hy
          rcases List.mem_append.1 hy with h | h
          · exact HK.out y h
          · simp at h
            subst h
            exact HD.out
        go_roundw
        case rel => exact ⟨k + 1, by go_num, by omega, hK2, by first | rfl | trivial⟩
        case measure => simp [intOf]; omega
    · have hall : ∀ y ∈ l, y ≠ t := by
        intro y hy
        exact HK.out y (by rw [List.take_of_length_le (by rw [Hn.out]; omega)]; exact hy)
      have HA := hidP hall
      clear hall
      go_wp2
      go_ret
      exact ⟨by rw [idxB_none HA.out]; rfl, rfl⟩
set_option maxRecDepth 100000 in
set_option maxHeartbeats 1600000 in
theorem dGDel_any (g n c pb t : Nat) (l : List Nat) (cur : Array Value) (w : World) (hg : w.heap[g]? = some (.cells cur 95 (0, 0))) (hcz : cur.size = c) (htk : cur.toList.take n = ptrs l) (hn : l.length = n) (hnc : n ≤ c) (hc : c ≤ maxLen) (hmax : n ≤ 1000000) (hbl : ∀ y ∈ l, IsBlk w y) (ht : IsBlk w t)
    (hp : w.cell? ⟨pb, 0, none⟩ = some (.pointer (some ⟨t, 0, none⟩))) (hpg : pb ≠ g) :
    Calls Tryz.prog 117 #[.slice (some ⟨g, 0, none⟩) n c, .func (.func 118) #[] #[.pointer (some ⟨pb, 0, none⟩)]] w fun e w' =>
      e = .returned (.slice (some ⟨g, 0, none⟩) (but l t).length c) ∧ (∃ cur', w'.heap[g]? = some (.cells cur' 95 (0, 0)) ∧ cur'.size = c ∧ cur'.toList.take (but l t).length = ptrs (but l t)) ∧ Keep (fun k => k = g) w w' := by
  have hr : RowAt w (some ⟨g, 0, none⟩) (ptrs l) := by
    refine .inr ⟨g, 0, rfl, fun j u hj => ?_⟩
    rw [Nat.zero_add, block_cell hg j, ← Array.getElem?_toList]
    rw [← htk, List.getElem?_take] at hj
    split at hj
    · exact hj
    · cases hj
  have hix := dGIx_any (some ⟨g, 0, none⟩) n c pb t l w hr hn hmax hbl ht hp
  by_cases hall : ∀ y ∈ l, y ≠ t
  · rw [idxB_none hall] at hix
    have hv := but_all hall
    have Hg := hidP hg
    have Htk := hidP htk
    have Hcz := hidP hcz
    rw [hv, hn]
    clear hall hg htk hcz hr
    go_enter Tryz.func117, Tryz.ntmps117
    go_wp2_with (go_at_call 129; refine hix.mono ?_; rintro e w1 ⟨rfl, hw⟩; subst hw)
    go_ret
    exact ⟨rfl, ⟨cur, Hg.out, Hcz.out, Htk.out⟩, .refl _ _⟩
  · obtain ⟨k, hk⟩ : ∃ k : Nat, idxB l t = k := by
      refine ⟨l.idxOf t, ?_⟩
      unfold idxB
      rw [if_pos]
      exact Classical.byContradiction fun hc => hall fun y hy e => hc (e ▸ hy)
    rw [hk] at hix
    obtain ⟨hx0, hpre⟩ := first_eq hk
    have hkn : k < n := by rw [← hn]; exact (List.getElem?_eq_some_iff.1 hx0).1
    have hne : ¬ ((k : Int) = -1) := by omega
    have Hn := hidP hn
    have HA0 : Hid (ptrs (but (l.take (k + 1)) t) = cur.toList.take k ∧ (but (l.take (k + 1)) t).length = k) := by
      have e1 : but (l.take (k + 1)) t = l.take k := by
        rw [List.take_add_one, hx0, but_append, but_all hpre]
        simp [but]
      refine ⟨?_, by rw [e1, List.length_take]; omega⟩
      rw [e1]
      have : (ptrs l).take k = ptrs (l.take k) := by unfold ptrs; rw [List.map_take]
      rw [← this, ← htk, List.take_take]
      congr 1
      omega
    have HB0 : Hid (∀ p, p < n → cur.toList[p]? = (ptrs l)[p]?) := fun p hp => by rw [← htk, List.getElem?_take, if_pos hp]
    have Hg := hidP hg
    have Hcz := hidP hcz
    have HP := hidP hp
    have HBL := hidP hbl
    have HT := hidP ht
    clear hg htk hcz hall hk hx0 hpre hr hn hp hbl ht
    unfold maxLen at hc
    go_enter Tryz.func117, Tryz.ntmps117
    go_wp2_with (go_at_call 129; refine hix.mono ?_; rintro e w1 ⟨rfl, hw⟩; subst hw)
    go_loopw [5, 6] (fun v5 v6 wr => ∃ (i j : Nat) (cur' : Array Value), v5 = .int .i64 i ∧ v6 = .int .i64 j ∧ i < j ∧ j ≤ n ∧ Hid (wr.heap[g]? = some (.cells cur' 95 (0, 0))) ∧ Hid (cur'.size = c) ∧
        Hid (ptrs (but (l.take j) t) = cur'.toList.take i ∧ (but (l.take j) t).length = i) ∧ Hid (∀ p, j ≤ p → p < n → cur'.toList[p]? = (ptrs l)[p]?) ∧ Keep (fun k => k = g) w1 wr) (fun _ v _ => n - (intOf v).toNat)
    case atStart => exact ⟨k, k + 1, cur, rfl, by go_num, by omega, by omega, Hg, Hcz, HA0, fun p _ hp => HB0.out p hp, .refl _ _⟩
    case round =>
      obtain ⟨i, j, cur', rfl, rfl, hij, hjn, HG, HZ, HA, HB, hk'⟩ := hrel
      by_cases hlt : j < n
      · obtain ⟨x, hx⟩ : ∃ x, l[j]? = some x := ⟨_, List.getElem?_eq_getElem (by rw [Hn.out]; omega)⟩
        have x0 : wr.cell? ⟨g, j, none⟩ = some (.pointer (some ⟨x, 0, none⟩)) := by rw [block_cell HG.out, ← Array.getElem?_toList, HB.out _ (by omega) (by omega)]; exact ptrs_get hx
        have hpr := Keep.cell (p := ⟨pb, 0, none⟩) hk' hpg HP.out
        have hbk : ∀ y, IsBlk w1 y → IsBlk wr y := fun y h => h.keep hk' (fun e => ⟨cur', _, e ▸ HG.out⟩)
        have hh := dGClo_any x t pb wr (hbk x (HBL.out x (List.mem_of_getElem? hx))) (hbk t HT.out) hpr
        have HH := hidP hh
        have HX := hidP hx
        clear hh hx hpr hbk
        by_cases hd : x = t
        · have hd' : decide (x = t) = true := by simpa using hd
          rw [hd'] at HH
          have hv1 : but [x] t = [] := by simp [but, hd]
          have hst := but_step (t := t) HX.out
          rw [hv1, List.append_nil] at hst
          have HST := hidP hst
          clear hd hd' hv1 hst
          go_wp2_with (go_at_call 118; refine HH.out.mono ?_; rintro e w2 ⟨rfl, hw⟩; subst hw)
          refine ⟨?_, ?measure⟩
          (repeat apply Exists.intro)
          refine ⟨?rel, rfl⟩
          case rel => exact ⟨i, j + 1, cur', rfl, by go_num, by omega, by omega, HG, HZ, ⟨by rw [HST.out]; exact HA.out.1, by rw [HST.out]; exact HA.out.2⟩, fun p hp1 hp2 => HB.out p (by omega) hp2, hk'⟩
          case measure => simp [intOf]; omega
        · have hd' : decide (x = t) = false := by simpa using hd
          rw [hd'] at HH
          have hv1 : but [x] t = [x] := by simp [but, hd]
          have hst := but_step (t := t) HX.out
          rw [hv1] at hst
          have HST := hidP hst
          have hzz := HZ.out
          have f0 := frozen_of_row wr g i _ _ HG.out
          obtain ⟨d0, e0⟩ : ∃ u, wr.cell? ⟨g, i, none⟩ = some u := ⟨_, (block_cell HG.out i).trans (Array.getElem?_eq_getElem (by omega))⟩
          clear hd hd' hv1 hst hzz
          go_wp2_with (go_at_call 118; refine HH.out.mono ?_; rintro e w2 ⟨rfl, hw⟩; subst hw)
          have hsc := heap_setCells g 95 [.pointer (some ⟨x, 0, none⟩)] i cur' w2 HG.out (by have := HZ.out; simp; omega)
          have hl : i < cur'.toList.length := by have := HZ.out; simp; omega
          refine ⟨?_, ?measure⟩
          (repeat apply Exists.intro)
          refine ⟨?rel, rfl⟩
          case measure => simp [intOf]; omega
          refine ⟨i + 1, j + 1, _, by go_num, by go_num, by omega, by omega, hsc, ?_, ⟨?_, ?_⟩, ?_, ?_⟩
          · show _ = _
            have := HZ.out
            simp
            omega
          · rw [HST.out, ptrs_append, HA.out.1, List.toList_toArray]
            exact (put1_take _ _ _ hl).symm
          · rw [HST.out, List.length_append, HA.out.2]
            rfl
          · intro p hp1 hp2
            rw [List.toList_toArray]
            refine (put1_get _ _ _ _ hl (by omega)).trans ?_
            exact HB.out p (by omega) hp2
          · exact hk'.setCell (p := ⟨g, i, none⟩) rfl _
      · obtain rfl : j = n := by omega
        have hin : i < j := hij
        have hlt2 : (l.take j) = l := List.take_of_length_le (by rw [Hn.out]; omega)
        have hA := HA.out
        rw [hlt2] at hA
        obtain ⟨hA1, hA2⟩ := hA
        have hzl : (Builtin.zeroCells (Value.pointer none).cells (j - i)).toList.length = j - i := by
          simp [Builtin.zeroCells, Value.cells]
        have hcl := fun ty => run_clear_row (P := Tryz.prog) (n := j - i) wr 62 95 ty (.pointer none) Tryz.underlying62 (fun w => by simp [Tryz.zeroValue95]) (fun v hv => by
          simp only [Builtin.zeroCells, Array.toList_map, List.mem_map] at hv
          obtain ⟨a, _, rfl⟩ := hv
          have h1 : a % 1 = 0 := by omega
          simp [Value.cells, h1, Value.oneCell']) g i (c - i) (by omega) (fun q hq => by
            rw [hzl] at hq
            rw [block_cell HG.out, Array.getElem?_eq_getElem (by have := HZ.out; omega)]
            rfl) (fun q hq => frozen_of_row wr g _ _ _ HG.out)
        have hsc := heap_setCells g 95 (Builtin.zeroCells (Value.pointer none).cells (j - i)).toList i cur' wr HG.out (by rw [hzl]; have := HZ.out; omega)
        have hcA : cutA (some ⟨g, 0, none⟩) i c 1 = some ⟨g, i, none⟩ := by unfold cutA; rw [if_neg (by omega)]; simp [Addr.add_lit]
        generalize (Builtin.zeroCells (Value.pointer none).cells (j - i)).toList = Z at *
        have HSC := hidP hsc
        have HZL := hidP hzl
        have HA1 := hidP hA1
        have HA2 := hidP hA2
        clear hsc hzl hA1 hA2 hlt2
        go_wp2
        go_ret
        have hm : i = (but l t).length := HA2.out.symm
        have hz := HZ.out
        have hzl := HZL.out
        refine ⟨by rw [← hm]; rfl, ⟨_, HSC.out, by simp; omega, ?_⟩, hk'.trans ((Keep.refl (fun k => k = g) wr).setCells rfl _ _)⟩
        rw [List.toList_toArray, ← hm, HA1.out, List.append_assoc, List.take_append_of_le_length (by rw [List.length_take]; simp; omega), List.take_of_length_le (by rw [List.length_take]; omega)]
theorem dGOwn_any (B : Nat) (v : Value) (n pb t : Nat) (l : List Nat) (w : World) (ho : w.ownsRow B 95 1 v n (ptrs l)) (hmax : n ≤ 1000000) (hbl : ∀ y ∈ l, IsBlk w y) (ht : IsBlk w t) (hp : w.cell? ⟨pb, 0, none⟩ = some (.pointer (some ⟨t, 0, none⟩))) (hpg : v.ownBlock ≠ some pb) :
    Calls Tryz.prog 117 #[v, .func (.func 118) #[] #[.pointer (some ⟨pb, 0, none⟩)]] w fun e w' =>
      ∃ ao c, e = .returned (.slice ao (but l t).length c) ∧ w'.ownsRow B 95 1 (.slice ao (but l t).length c) (but l t).length (ptrs (but l t)) ∧ Keep (fun k => v.ownBlock = some k) w w' ∧ (Value.slice ao (but l t).length c).ownBlock = v.ownBlock := by
  have hn : l.length = n := by have := ho.1; rw [ptrs_len] at this; simpa using this
  rcases ho.2 with ⟨rfl, h0⟩ | ⟨g, cap, cur, rfl, hb, hg, h1, h2, h3, h4⟩
  · subst h0
    obtain rfl : l = [] := List.eq_nil_of_length_eq_zero hn
    have hix := dGIx_any none 0 0 pb t [] w (.nil w none) rfl (by omega) (by simp) ht hp
    rw [idxB_none (by simp)] at hix
    go_enter Tryz.func117, Tryz.ntmps117
    go_wp2_with (go_at_call 129; refine hix.mono ?_; rintro e w1 ⟨rfl, hw⟩; subst hw)
    go_ret
    exact ⟨none, 0, rfl, World.ownsRow_nil _ _ _ _, .refl _ _, rfl⟩
  · rw [Nat.mul_one] at h3 h4
    refine (dGDel_any g n cap pb t l cur w hg h3 h4 hn h1 h2 hmax hbl ht hp (fun e => hpg (by rw [e]; rfl))).mono ?_
    rintro e w' ⟨rfl, ⟨cur', h5, h6, h7⟩, hk⟩
    refine ⟨_, cap, rfl, ⟨by rw [ptrs_len, Nat.mul_one], .inr ⟨g, cap, cur', rfl, hb, h5, by have := but_le l t; omega, h2, by rw [Nat.mul_one]; exact h6, by rw [Nat.mul_one]; exact h7⟩⟩, hk.mono (fun k _ e => by rw [e]; rfl), rfl⟩
set_option maxRecDepth 100000 in
set_option maxHeartbeats 800000 in
theorem without_any (B : Nat) (v : Value) (n y : Nat) (l : List Nat) (w : World) (ho : w.ownsRow B 132 1 v n (ptrs l)) (hmax : n ≤ 1000000) (hbl : ∀ y ∈ l, IsBlk w y) (ht : IsBlk w y) :
    Calls Tryz.prog 102 #[v, .pointer (some ⟨y, 0, none⟩)] w fun e w' =>
      ∃ ao c, e = .returned (.slice ao (but l y).length c) ∧ w'.ownsRow B 132 1 (.slice ao (but l y).length c) (but l y).length (ptrs (but l y)) ∧ Keep (fun k => v.ownBlock = some k) w w' ∧ (Value.slice ao (but l y).length c).ownBlock = v.ownBlock := by
  have hb1 := bnew (brefl w) (.cells #[.pointer (some ⟨y, 0, none⟩)] 132)
  have hD := dWOwn_any B v n w.heap.size y l (w.alloc (.cells #[.pointer (some ⟨y, 0, none⟩)] 132)) (owns_below ho hb1) hmax (fun z hz => (hbl z hz).below hb1) (ht.below hb1) (by go_simp) (fun e => by have := own_lt ho _ e; omega)
  have HD := hidP hD
  have HB := hidP hb1
  clear hD hb1 ho hbl ht
  go_enter Tryz.func102, Tryz.ntmps102
  go_wp2_with (go_at_call 119; refine HD.out.mono ?_; rintro e w1 ⟨ao, c, rfl, h1, h2, h3⟩)
  go_ret
  exact ⟨ao, c, rfl, h1, (Keep.of_below HB.out).trans h2, h3⟩
theorem owns_blk {w : World} {B : Nat} {e : TypeId} {size n : Nat} {v : Value} {xs : List Value} (h : w.ownsRow B e size v n xs) {b : Nat} (hb : v.ownBlock = some b) : IsBlk w b := by
  rcases h.2 with ⟨rfl, _⟩ | ⟨g, cap, cur, rfl, _, hg, _⟩
  · cases hb
  · cases hb
    exact ⟨_, _, hg⟩
section
variable {B : Nat} {P : Value} {σ : Lay} {ow ow' : Owns} {w w' w1 w2 w3 : World} {m m' : MachD}
theorem wPtrs_ptrs (l : List Nat) : wPtrs σ l = ptrs (l.map σ.wA) := by unfold wPtrs ptrs; rw [List.map_map]; rfl
theorem gPtrs_ptrs (l : List Nat) : gPtrs σ l = ptrs (l.map σ.gA) := by unfold gPtrs ptrs; rw [List.map_map]; rfl
theorem CellsO.isBlk {b : Nat} {o : Own} {cs : Array Value} {t : TypeId} (h : CellsO ow w b o cs t) : IsBlk w b := ⟨cs, t, h.1⟩
theorem Inv.wInj (h : Inv B P σ ow m w) {i j : Nat} (hi : i < m.ws.length) (hj : j < m.ws.length) (e : σ.wA i = σ.wA j) : i = j := by
  obtain ⟨x, hx⟩ := some_lt hi
  obtain ⟨y, hy⟩ := some_lt hj
  have a := (h.wt i x hx).2
  have b := (h.wt j y hy).2
  rw [e, b] at a
  injection a with a; injection a with a; exact a.symm
theorem Inv.gInj (h : Inv B P σ ow m w) {i j : Nat} (hi : i < m.gors.length) (hj : j < m.gors.length) (e : σ.gA i = σ.gA j) : i = j := by
  obtain ⟨x, hx⟩ := some_lt hi
  obtain ⟨y, hy⟩ := some_lt hj
  obtain ⟨_, _, a, _⟩ := h.gor i x hx
  obtain ⟨_, _, b, _⟩ := h.gor j y hy
  have a := a.2
  have b := b.2
  rw [e, b] at a
  injection a with a; injection a with a; exact a.symm
theorem but_map {f : Nat → Nat} {l : List Nat} {y : Nat} (h : ∀ k ∈ l, f k = f y → k = y) : but (l.map f) (f y) = (l.filter (· != y)).map f := by
  unfold but
  rw [List.filter_map]
  congr 1
  refine List.filter_congr fun k hk => ?_
  by_cases e : k = y
  · subst e; simp
  · have : f k ≠ f y := fun hh => e (h k hk hh)
    show (f k != f y) = (k != y)
    rw [bne, bne, show (f k == f y) = false by simpa using this, show (k == y) = false by simpa using e]
def HeldAs (σ : Lay) (m : MachD) (w w' : World) : Prop := ∀ i, i < m.chans.length → w'.cell? ⟨σ.cA i, 2, none⟩ = w.cell? ⟨σ.cA i, 2, none⟩
theorem HeldAs.refl (σ : Lay) (m : MachD) (w : World) : HeldAs σ m w w := fun _ _ => rfl
theorem HeldAs.trans {w1 w2 w3 : World} (h : HeldAs σ m w1 w2) (k : HeldAs σ m w2 w3) : HeldAs σ m w1 w3 := fun i hi => (k i hi).trans (h i hi)
theorem HeldAs.keep {S : Nat → Prop} (h : Inv B P σ ow m w) (hk : Keep S w w') (hs : ∀ i b, ow b = some (.chan i) → ¬ S b) : HeldAs σ m w w' := fun i hi => by
  obtain ⟨c, hc⟩ := some_lt hi
  obtain ⟨hv, sv, tv, hcell, _⟩ := h.chan i c hc
  exact World.cell?_of_block (w := w) (hk.block _ (blk_lt hcell.1) (hs i _ hcell.2))
theorem Inv.unlink1 (h : Inv B P σ ow m w) {y : Nat} {yd : WaitD} (hy : m.ws[y]? = some yd) {cd : ChanD} (hc : m.chans[yd.c]? = some cd) (hS : ∀ k ∈ cd.sends, k < m.ws.length) (hT : ∀ k ∈ cd.takes, k < m.ws.length)
    {hv sv tv : Value} (hcell : CellsO ow w (σ.cA yd.c) (.chan yd.c) (chanCells cd hv sv tv) 124) (r1 : RowO B ow w (.chan yd.c) 20 1 hv cd.held.length (cd.held.map (encV σ))) (r2 : RowO B ow w (.chan yd.c) 132 1 sv cd.sends.length (wPtrs σ cd.sends))
    (r3 : RowO B ow w (.chan yd.c) 132 1 tv cd.takes.length (wPtrs σ cd.takes)) (hne : ∀ b, sv.ownBlock = some b → tv.ownBlock ≠ some b) {a1 a2 : Option Addr} {c1 c2 : Nat}
    (o1 : w1.ownsRow B 132 1 (.slice a1 (but (cd.sends.map σ.wA) (σ.wA y)).length c1) (but (cd.sends.map σ.wA) (σ.wA y)).length (ptrs (but (cd.sends.map σ.wA) (σ.wA y)))) (k1 : Keep (fun k => sv.ownBlock = some k) w w1) (e1 : (Value.slice a1 (but (cd.sends.map σ.wA) (σ.wA y)).length c1).ownBlock = sv.ownBlock)
    (o2 : w2.ownsRow B 132 1 (.slice a2 (but (cd.takes.map σ.wA) (σ.wA y)).length c2) (but (cd.takes.map σ.wA) (σ.wA y)).length (ptrs (but (cd.takes.map σ.wA) (σ.wA y)))) (k2 : Keep (fun k => tv.ownBlock = some k) w1 w2) (e2 : (Value.slice a2 (but (cd.takes.map σ.wA) (σ.wA y)).length c2).ownBlock = tv.ownBlock) :
    HeldAs σ m w ((w2.setCell ⟨σ.cA yd.c, 3, none⟩ (.slice a1 (but (cd.sends.map σ.wA) (σ.wA y)).length c1)).setCell ⟨σ.cA yd.c, 4, none⟩ (.slice a2 (but (cd.takes.map σ.wA) (σ.wA y)).length c2)) ∧
    Keep (fun b => ow b = some (.chan yd.c)) w ((w2.setCell ⟨σ.cA yd.c, 3, none⟩ (.slice a1 (but (cd.sends.map σ.wA) (σ.wA y)).length c1)).setCell ⟨σ.cA yd.c, 4, none⟩ (.slice a2 (but (cd.takes.map σ.wA) (σ.wA y)).length c2)) ∧
    Res B P σ ow (m.unlink1 y) w ((w2.setCell ⟨σ.cA yd.c, 3, none⟩ (.slice a1 (but (cd.sends.map σ.wA) (σ.wA y)).length c1)).setCell ⟨σ.cA yd.c, 4, none⟩ (.slice a2 (but (cd.takes.map σ.wA) (σ.wA y)).length c2)) := by
  have hyl := lt_of_some hy
  have m1 : but (cd.sends.map σ.wA) (σ.wA y) = (cd.sends.filter (· != y)).map σ.wA := but_map fun k hk e => h.wInj (hS k hk) hyl e
  have m2 : but (cd.takes.map σ.wA) (σ.wA y) = (cd.takes.filter (· != y)).map σ.wA := but_map fun k hk e => h.wInj (hT k hk) hyl e
  have q1 : (but (cd.sends.map σ.wA) (σ.wA y)).length = (cd.sends.filter (· != y)).length := by rw [m1, List.length_map]
  have q2 : (but (cd.takes.map σ.wA) (σ.wA y)).length = (cd.takes.filter (· != y)).length := by rw [m2, List.length_map]
  rw [m1, ← wPtrs_ptrs, List.length_map] at o1
  rw [m2, ← wPtrs_ptrs, List.length_map] at o2
  rw [q1] at e1 ⊢
  rw [q2] at e2 ⊢
  have K : Keep (fun b => ow b = some (.chan yd.c)) w w2 := (k1.mono fun b _ e => r2.2 b e).trans (k2.mono fun b _ e => r3.2 b e)
  have nb : ∀ {v : Value} {n : Nat} {xs : List Value} {e : TypeId}, RowO B ow w (.chan yd.c) e 1 v n xs → e ≠ 124 → v.ownBlock ≠ some (σ.cA yd.c) := fun hr he => hr.row_ne hcell.1 he
  have c2h : w2.heap[σ.cA yd.c]? = some (.cells (chanCells cd hv sv tv) 124 (0, 0)) := by
    have hl := blk_lt hcell.1
    have t1 := (k1.block _ hl (nb r2 (by decide))).trans hcell.1
    exact (k2.block _ (blk_lt t1) (nb r3 (by decide))).trans t1
  have K2 : Keep (fun b => ow b = some (.chan yd.c)) w ((w2.setCell ⟨σ.cA yd.c, 3, none⟩ (.slice a1 (cd.sends.filter (· != y)).length c1)).setCell ⟨σ.cA yd.c, 4, none⟩ (.slice a2 (cd.takes.filter (· != y)).length c2)) :=
    (K.setCell (p := ⟨σ.cA yd.c, 3, none⟩) hcell.2 _).setCell (p := ⟨σ.cA yd.c, 4, none⟩) hcell.2 _
  have S2 : Keep (fun b => b = σ.cA yd.c) w2 ((w2.setCell ⟨σ.cA yd.c, 3, none⟩ (.slice a1 (cd.sends.filter (· != y)).length c1)).setCell ⟨σ.cA yd.c, 4, none⟩ (.slice a2 (cd.takes.filter (· != y)).length c2)) :=
    ((Keep.refl (fun b => b = σ.cA yd.c) w2).setCell (p := ⟨σ.cA yd.c, 3, none⟩) rfl _).setCell (p := ⟨σ.cA yd.c, 4, none⟩) rfl _
  refine ⟨fun i hi => ?_, K2, ?_⟩
  · obtain ⟨c, hci⟩ := some_lt hi
    obtain ⟨hv', sv', tv', hcell', _⟩ := h.chan i c hci
    by_cases e : i = yd.c
    · subst e
      rw [cell_of_row _ _ 2 _ _ (0, 0) (heap_setCell_same _ _ 4 _ _ (.slice a2 (cd.takes.filter (· != y)).length c2) (heap_setCell_same w2 _ 3 _ _ (.slice a1 (cd.sends.filter (· != y)).length c1) c2h)), cell_of_row w _ 2 _ _ (0, 0) hcell.1]
      rfl
    · exact World.cell?_of_block (w := w) (K2.block _ (blk_lt hcell'.1) (fun hh => by rw [hcell'.2] at hh; injection hh with hh; injection hh with hh; exact e hh))
  have hu : m.unlink1 y = m.setChan yd.c { cd with sends := cd.sends.filter (· != y), takes := cd.takes.filter (· != y) } := by
    unfold MachD.unlink1
    simp only [waitAt_some hy, chanAt_some hc]
  rw [hu]
  refine h.chan_put (c' := { cd with sends := cd.sends.filter (· != y), takes := cd.takes.filter (· != y) }) hc K2 (hv := hv) (heap_setCell_same _ _ 4 _ _ _ (heap_setCell_same w2 _ 3 _ _ _ c2h)) ?_ (.anew ?_ ?_) (.anew ?_ ?_) ?_
  · refine r1.stay ((k1.mono (T := fun b => sv.ownBlock = some b ∨ tv.ownBlock = some b ∨ b = σ.cA yd.c) fun b _ e => .inl e).trans ((k2.mono fun b _ e => .inr (.inl e)).trans (S2.mono fun b _ e => .inr (.inr e)))) ?_ (.frm _)
    rintro b hb (e | e | e)
    · exact r1.rows_ne r2 (by decide) b e hb
    · exact r1.rows_ne r3 (by decide) b e hb
    · exact nb r1 (by decide) (by rw [hb, e])
  · exact owns_keep (owns_keep o1 k2 (fun b hb e => hne b (e1.symm.trans hb) e)) S2 (fun b hb e => nb r2 (by decide) (by rw [← e1, hb, e]))
  · intro b hb
    have hb' := e1.symm.trans hb
    exact .inl ⟨own_lt r2.1 b hb', r2.2 b hb'⟩
  · exact owns_keep o2 S2 (fun b hb e => nb r3 (by decide) (by rw [← e2, hb, e]))
  · intro b hb
    have hb' := e2.symm.trans hb
    exact .inl ⟨own_lt r3.1 b hb', r3.2 b hb'⟩
  · intro b hb
    show (Value.slice a2 _ c2).ownBlock ≠ some b
    rw [e2]
    exact hne b (e1.symm.trans hb)
end
end Go.Proofs.YtklfboidjnchoaaGreatDoor
namespace Go.Proofs.YtklfboidjnchoaaGreatDoor
open Go
set_option linter.unusedVariables false
set_option linter.unusedSimpArgs false
section
variable {P : Program} {ops : Array Oper} {Q : Exit → Act → World → Prop} {md : Region.Mode} {S : World → Prop} {s : Nat}
def OrdG (P : Program) (md : Region.Mode) (ops : Array Oper) (Q : Exit → Act → World → Prop) (S : World → Prop) (s : Nat) : Nat → Array Bool → Act → World → Prop
  | 0, listed, a, w => Region.ready md ops listed = [] ∧ Q .normal a w
  | fuel + 1, listed, a, w =>
    (Region.ready md ops listed = [] → Q .normal a w) ∧
    ∀ i ∈ Region.ready md ops listed, wpOp P ops Q i (fun a' w' => (S w' ∨ (listed.setIfInBounds i true).getD s false = true) ∧ OrdG P md ops Q S s fuel (listed.setIfInBounds i true) a' w') a w
theorem OrdG.any : ∀ (fuel : Nat) (listed : Array Bool) (a : Act) (w : World), OrdG P md ops Q S s fuel listed a w → wpAny P md ops Q fuel listed a w
  | 0, _, _, _, h => h
  | fuel + 1, _, _, _, h => ⟨h.1, fun i hi => wpOp_mono (fun a' w' k => OrdG.any fuel _ a' w' k.2) (h.2 i hi)⟩
def waitsFor (md : Region.Mode) (ops : Array Oper) (s i : Nat) : Bool := match ops[s]? with
  | some o => o.after.any fun e => Region.binds md e && e.on == i
  | none => false
theorem OrdG.first {i : Nat} {oi : Oper} {v : Value} (hi : ops[i]? = some oi) (hwt : waitsFor md ops s i = true) (hsel : ∀ (j : Nat) (o : Oper) cs b, ops[j]? = some o → o.op ≠ .select cs b)
    (hQ : ∀ c a w, Q (.panic c) (a.put oi.dst v) w → Q (.panic c) a w) :
    ∀ (fuel : Nat) (listed : Array Bool) (a : Act) (w : World),
      (∀ j oj, ops[j]? = some oj → j ≠ i → listed.getD j true = false → (∀ e ∈ oj.after, Region.binds md e = true → e.on ≠ i) → oi.apart ops oj = true) →
      i ∈ Region.ready md ops listed → listed.getD s false = false → YieldsIf P ops S oi v a → S w →
      OrdG P md ops Q S s fuel (listed.setIfInBounds i true) (a.put oi.dst v) w → OrdG P md ops Q S s (fuel + 1) listed a w := by
  have hss : ∀ (listed : Array Bool), i ∈ Region.ready md ops listed → s ∉ Region.ready md ops listed := by
    intro listed hr hs
    obtain ⟨_, o, ho, hall⟩ := mem_ready.1 hs
    unfold waitsFor at hwt
    rw [ho] at hwt
    dsimp only at hwt
    rw [Array.any_eq_true'] at hwt
    obtain ⟨e, he, hb⟩ := hwt
    simp only [Bool.and_eq_true, beq_iff_eq] at hb
    have h1 := hall e he hb.1
    have h0 := (mem_ready.1 hr).1
    rw [hb.2] at h1
    rcases Nat.lt_or_ge i listed.size with h' | h'
    · simp [h'] at h0 h1; rw [h0] at h1; cases h1
    · simp [Array.getElem?_eq_none h'] at h1
  have hsi : ∀ (listed : Array Bool), i ∈ Region.ready md ops listed → listed.getD s false = false → i ≠ s → (listed.setIfInBounds i true).getD s false = false := fun listed _ h hne => by rw [getD_set_ne false hne]; exact h
  intro fuel
  induction fuel with
  | zero =>
    intro listed a w _ hr hl hy hS H
    refine ⟨fun h => (by rw [h] at hr; cases hr), fun j hj => ?_⟩
    by_cases hji : j = i
    · subst hji; exact hy.wpOp hi hS ⟨.inl hS, H⟩
    · have := ready_mono hj hji
      rw [H.1] at this
      cases this
  | succ fuel ih =>
    intro listed a w hfree hr hl hy hS H
    refine ⟨fun h => (by rw [h] at hr; cases hr), fun j hj => ?_⟩
    by_cases hji : j = i
    · subst hji; exact hy.wpOp hi hS ⟨.inl hS, H⟩
    · have hjs : j ≠ s := fun e => hss listed hr (e ▸ hj)
      have h1 := H.2 j (ready_mono hj hji)
      obtain ⟨hjun, oj, hoj, hall⟩ := mem_ready.1 hj
      have hnot : ∀ e ∈ oj.after, Region.binds md e = true → e.on ≠ i := fun e he hb heq => by
        have h1 := hall e he hb
        have h0 := (mem_ready.1 hr).1
        rw [heq] at h1
        rcases Nat.lt_or_ge i listed.size with h' | h'
        · simp [h'] at h0 h1; rw [h0] at h1; cases h1
        · simp [Array.getElem?_eq_none h'] at h1
      have h2 := wpOp_putIf hoj (hfree j oj hoj hji hjun hnot) (fun cs b => hsel i oi cs b hi) (fun cs b => hsel j oj cs b hoj) hQ hy h1
      have hfree' : ∀ k ok, ops[k]? = some ok → k ≠ i → (listed.setIfInBounds j true).getD k true = false →
          (∀ e ∈ ok.after, Region.binds md e = true → e.on ≠ i) → oi.apart ops ok = true := fun k ok hk hki hun hno => by
        refine hfree k ok hk hki ?_ hno
        by_cases hjk : j = k
        · subst hjk; exact hjun
        · rw [getD_set_ne true hjk] at hun; exact hun
      have his : i ≠ s := fun e => hss listed hr (e ▸ hr)
      refine wpOp_mono (fun a' w' h3 => ?_) h2
      have hl' : (listed.setIfInBounds j true).getD s false = false := by rw [getD_set_ne false hjs]; exact hl
      have hl2 : ((listed.setIfInBounds i true).setIfInBounds j true).getD s false = false := by rw [getD_set_ne false hjs, getD_set_ne false his]; exact hl
      have hS' : S w' := h3.2.1.elim id (fun e => by rw [hl2] at e; cases e)
      refine ⟨.inl hS', ih (listed.setIfInBounds j true) a' w' hfree' (ready_mono hr (Ne.symm hji)) hl' h3.1 hS' ?_⟩
      rw [Array.setIfInBounds_comm _ _ hji]
      exact h3.2.2
theorem OrdG.firstY {i : Nat} {oi : Oper} {v : Value} (hi : ops[i]? = some oi) (his : i ≠ s) (hsel : ∀ (j : Nat) (o : Oper) cs b, ops[j]? = some o → o.op ≠ .select cs b)
    (hQ : ∀ c a w, Q (.panic c) (a.put oi.dst v) w → Q (.panic c) a w) :
    ∀ (fuel : Nat) (listed : Array Bool) (a : Act) (w : World),
      (∀ j oj, ops[j]? = some oj → j ≠ i → listed.getD j true = false → (∀ e ∈ oj.after, Region.binds md e = true → e.on ≠ i) → oi.apart ops oj = true) →
      i ∈ Region.ready md ops listed → YieldsIf P ops (fun _ => True) oi v a → (S w ∨ listed.getD s false = true) →
      OrdG P md ops Q S s fuel (listed.setIfInBounds i true) (a.put oi.dst v) w → OrdG P md ops Q S s (fuel + 1) listed a w := by
  have hset : ∀ (listed : Array Bool), (listed.setIfInBounds i true).getD s false = listed.getD s false := fun listed => getD_set_ne false his
  intro fuel
  induction fuel with
  | zero =>
    intro listed a w _ hr hy hS H
    refine ⟨fun h => (by rw [h] at hr; cases hr), fun j hj => ?_⟩
    by_cases hji : j = i
    · subst hji; exact hy.wpOp hi trivial ⟨by rw [hset]; exact hS, H⟩
    · have := ready_mono hj hji
      rw [H.1] at this
      cases this
  | succ fuel ih =>
    intro listed a w hfree hr hy hS H
    refine ⟨fun h => (by rw [h] at hr; cases hr), fun j hj => ?_⟩
    by_cases hji : j = i
    · subst hji; exact hy.wpOp hi trivial ⟨by rw [hset]; exact hS, H⟩
    · have h1 := H.2 j (ready_mono hj hji)
      obtain ⟨hjun, oj, hoj, hall⟩ := mem_ready.1 hj
      have hnot : ∀ e ∈ oj.after, Region.binds md e = true → e.on ≠ i := fun e he hb heq => by
        have h1 := hall e he hb
        have h0 := (mem_ready.1 hr).1
        rw [heq] at h1
        rcases Nat.lt_or_ge i listed.size with h' | h'
        · simp [h'] at h0 h1; rw [h0] at h1; cases h1
        · simp [Array.getElem?_eq_none h'] at h1
      have h2 := wpOp_putIf hoj (hfree j oj hoj hji hjun hnot) (fun cs b => hsel i oi cs b hi) (fun cs b => hsel j oj cs b hoj) hQ hy h1
      have hfree' : ∀ k ok, ops[k]? = some ok → k ≠ i → (listed.setIfInBounds j true).getD k true = false →
          (∀ e ∈ ok.after, Region.binds md e = true → e.on ≠ i) → oi.apart ops ok = true := fun k ok hk hki hun hno => by
        refine hfree k ok hk hki ?_ hno
        by_cases hjk : j = k
        · subst hjk; exact hjun
        · rw [getD_set_ne true hjk] at hun; exact hun
      refine wpOp_mono (fun a' w' h3 => ?_) h2
      have hS' : S w' ∨ (listed.setIfInBounds j true).getD s false = true := h3.2.1.imp id (fun e => by
        rw [Array.setIfInBounds_comm _ _ (Ne.symm hji), hset] at e
        exact e)
      refine ⟨hS', ih (listed.setIfInBounds j true) a' w' hfree' (ready_mono hr (Ne.symm hji)) h3.1 hS' ?_⟩
      rw [Array.setIfInBounds_comm _ _ hji]
      exact h3.2.2
theorem OrdG.takeY {i : Nat} {oi : Oper} {v : Value} {fuel : Nat} {listed : Array Bool} {a : Act} {w : World} (hi : ops[i]? = some oi) (his : (i == s) = false)
    (hs : Region.noSelect ops = true) (hf : Region.free md ops listed i = true) (hr : (Region.ready md ops listed).contains i = true)
    (hQ : ∀ c a w, Q (.panic c) (a.put oi.dst v) w → Q (.panic c) a w) (hy : YieldsIf P ops (fun _ => True) oi v a) (hS : S w ∨ listed.getD s false = true)
    (h : OrdG P md ops Q S s fuel (listed.setIfInBounds i true) (a.put oi.dst v) w) : OrdG P md ops Q S s (fuel + 1) listed a w :=
  OrdG.firstY hi (by simpa using his) (Region.noSelect_spec hs) hQ fuel listed a w (Region.free_spec hi hf) (by simpa using hr) hy hS h
theorem OrdG.take {i : Nat} {oi : Oper} {v : Value} {fuel : Nat} {listed : Array Bool} {a : Act} {w : World} (hi : ops[i]? = some oi) (hwt : waitsFor md ops s i = true)
    (hs : Region.noSelect ops = true) (hf : Region.free md ops listed i = true) (hr : (Region.ready md ops listed).contains i = true) (hl : listed.getD s false = false)
    (hQ : ∀ c a w, Q (.panic c) (a.put oi.dst v) w → Q (.panic c) a w) (hy : YieldsIf P ops S oi v a) (hS : S w)
    (h : OrdG P md ops Q S s fuel (listed.setIfInBounds i true) (a.put oi.dst v) w) : OrdG P md ops Q S s (fuel + 1) listed a w :=
  OrdG.first hi hwt (Region.noSelect_spec hs) hQ fuel listed a w (Region.free_spec hi hf) (by simpa using hr) hl hy hS h
theorem OrdG.tk (i : Nat) (v : Value) {oi : Oper} {fuel : Nat} {listed : Array Bool} {a : Act} {w : World} (hi : ops[i]? = some oi) (hS : S w)
    (h : OrdG P md ops Q S s fuel (listed.setIfInBounds i true) (a.put oi.dst v) w)
    (hy : ∀ w, S w → (execOp a.eval oi).run P w = .ok (.value v) w := by ((intro w hSw; (try dsimp only at hSw); go_simp) <;> (try with_reducible rfl)))
    (hwt : waitsFor md ops s i = true := by kernel_rfl) (hs : Region.noSelect ops = true := by kernel_rfl) (hf : Region.free md ops listed i = true := by kernel_rfl)
    (hr : (Region.ready md ops listed).contains i = true := by kernel_rfl) (hl : listed.getD s false = false := by kernel_rfl)
    (hQ : ∀ c a w, Q (.panic c) (a.put oi.dst v) w → Q (.panic c) a w := by exact fun _ _ _ h => h) (hw : Region.wanted oi (yielded ops a.tmps) = true := by rfl) :
    OrdG P md ops Q S s (fuel + 1) listed a w :=
  OrdG.take hi hwt hs hf hr hl hQ (.inl ⟨hw, hy⟩) hS h
theorem OrdG.ty (i : Nat) (v : Value) {oi : Oper} {fuel : Nat} {listed : Array Bool} {a : Act} {w : World} (hi : ops[i]? = some oi) (hS : S w ∨ listed.getD s false = true)
    (h : OrdG P md ops Q S s fuel (listed.setIfInBounds i true) (a.put oi.dst v) w)
    (hy : ∀ w, True → (execOp a.eval oi).run P w = .ok (.value v) w := by ((intro w hSw; (try dsimp only at hSw); go_simp) <;> (try with_reducible rfl)))
    (his : (i == s) = false := by kernel_rfl) (hs : Region.noSelect ops = true := by kernel_rfl) (hf : Region.free md ops listed i = true := by kernel_rfl)
    (hr : (Region.ready md ops listed).contains i = true := by kernel_rfl)
    (hQ : ∀ c a w, Q (.panic c) (a.put oi.dst v) w → Q (.panic c) a w := by exact fun _ _ _ h => h) (hw : Region.wanted oi (yielded ops a.tmps) = true := by rfl) :
    OrdG P md ops Q S s (fuel + 1) listed a w :=
  OrdG.takeY hi his hs hf hr hQ (.inl ⟨hw, hy⟩) hS h
theorem OrdG.done {listed : Array Bool} {a : Act} {w : World} (hr : Region.ready md ops listed = []) (h : Q .normal a w) : ∀ fuel, OrdG P md ops Q S s fuel listed a w
  | 0 => ⟨hr, h⟩
  | _ + 1 => ⟨fun _ => h, by rw [hr]; simp⟩
theorem OrdG.one {i : Nat} {o : Oper} {fuel : Nat} {listed : Array Bool} {a : Act} {w : World} (hr : Region.ready md ops listed = [i]) (ho : ops[i]? = some o)
    (h : ∀ K' : Act → World → Prop, Shut (∀ a w, (S w ∨ (listed.setIfInBounds i true).getD s false = true) → OrdG P md ops Q S s fuel (listed.setIfInBounds i true) a w → K' a w) → if Region.wanted o (yielded ops a.tmps) = true then Oper.wp P o a w K' Q else K' (a.put o.dst undef) w) :
    OrdG P md ops Q S s (fuel + 1) listed a w :=
  ⟨fun h0 => (by rw [hr] at h0; cases h0), fun j hj => by
    rw [hr] at hj
    obtain rfl := List.mem_singleton.1 hj
    exact wpOp_step ho (fun K' hK => h K' (fun a w hS hW => hK a w ⟨hS, hW⟩))⟩
theorem OrdG.begin {id : Nat} {a : Act} {w : World} (S : World → Prop) (s : Nat) (hm : P.follows .mixedOrders = true) (hS : S w.drew)
    (h : OrdG P .any ops Q S s ops.size (Array.replicate ops.size false) a w.drew) : (Code.region id ops true).wp P Q a w :=
  wp_region_any hm (OrdG.any _ _ _ _ h)
end
end Go.Proofs.YtklfboidjnchoaaGreatDoor
namespace Go.Proofs.YtklfboidjnchoaaGreatDoor
open Go.RowKit Go.Proofs.YtklfboidjnchoaaGreatDoorW.PrintWords
set_option linter.unusedVariables false
set_option linter.unusedSimpArgs false
section
variable {B : Nat} {P : Value} {σ : Lay} {ow ow' : Owns} {w w' w1 w2 w3 : World} {o p : Own} {m m' : MachD} {q tv ev sv : Value} {G0 G1 G2 G3 : PV}
theorem MachC.step (h : MachC B P σ ow w m q tv ev sv G0 G1 G2 G3) (hs : StepO o ow w ow' w') (hp : Own.mach ≠ o) : MachC B P σ ow' w' m q tv ev sv G0 G1 G2 G3 :=
  ⟨h.gl, h.cells.step hs hp, h.queue.step hs hp, h.timers.step hs hp, h.events.step hs hp, h.steps.step hs hp⟩
theorem MachC.same (h : MachC B P σ ow w m q tv ev sv G0 G1 G2 G3) (h1 : m'.globals = m.globals) (h2 : m'.now = m.now) (h3 : m'.gors.length = m.gors.length) (h4 : m'.outcome = m.outcome) (h5 : m'.queue = m.queue) (h6 : m'.timers = m.timers) (h7 : m'.events = m.events) (h8 : m'.steps = m.steps) :
    MachC B P σ ow w m' q tv ev sv G0 G1 G2 G3 := by
  refine ⟨h1.trans h.gl, ?_, ?_, ?_, ?_, ?_⟩
  · rw [h2, h3, h4]; exact h.cells
  · rw [h5]; exact h.queue
  · rw [h6]; exact h.timers
  · rw [h7]; exact h.events
  · rw [h8]; exact h.steps
theorem MachC.keep (h : MachC B P σ ow w m q tv ev sv G0 G1 G2 G3) {S : Nat → Prop} (hk : Keep S w w') (hs : ∀ b, ow b = some .mach → ¬ S b) (hm : OwMore w ow ow') : MachC B P σ ow' w' m q tv ev sv G0 G1 G2 G3 := by
  refine ⟨h.gl, ⟨(hk.block _ (blk_lt h.cells.1) (hs _ h.cells.2)).trans h.cells.1, (hm _ (blk_lt h.cells.1)).trans h.cells.2⟩, ?_, ?_, ?_, ?_⟩
  · exact h.queue.stay hk (fun b hb => hs b (h.queue.2 b hb)) hm
  · exact h.timers.stay hk (fun b hb => hs b (h.timers.2 b hb)) hm
  · exact h.events.stay hk (fun b hb => hs b (h.events.2 b hb)) hm
  · exact h.steps.stay hk (fun b hb => hs b (h.steps.2 b hb)) hm
theorem Inv.machC (h : Inv B P σ ow m w) : ∃ q tv ev sv G0 G1 G2 G3, MachC B P σ ow w m q tv ev sv G0 G1 G2 G3 := h.mach.open
theorem Inv.queuePut (h : Inv B P σ ow m w) (hM : MachC B P σ ow w m q tv ev sv G0 G1 G2 G3) {l' : List Nat} {q' : Value} (hk : Keep (fun b => q.ownBlock = some b) w w2) (ho : w2.ownsRow B 95 1 q' l'.length (gPtrs σ l')) (hn : ∀ b, q'.ownBlock = some b → q.ownBlock = some b ∨ w.heap.size ≤ b) :
    Res B P σ ow { m with queue := l' } w (w2.setCell ⟨σ.mb, 1, none⟩ q') := by
  have hb := hM.apart
  have K1 : Keep (fun b => ow b = some .mach) w (w2.setCell ⟨σ.mb, 1, none⟩ q') := (hk.mono (fun b _ e => hM.queue.2 b e)).setCell (p := ⟨σ.mb, 1, none⟩) hM.cells.2 q'
  have K2 : Keep (fun b => q.ownBlock = some b ∨ b = σ.mb) w (w2.setCell ⟨σ.mb, 1, none⟩ q') := (hk.mono (fun b _ e => .inl e)).setCell (p := ⟨σ.mb, 1, none⟩) (.inr rfl) q'
  have c2 := (hk.block σ.mb (blk_lt hM.cells.1) hb.1.1).trans hM.cells.1
  have hnm : ∀ b, q'.ownBlock = some b → b ≠ σ.mb := fun b hb2 e => (hn b hb2).elim (fun h => hb.1.1 (e ▸ h)) (fun h => by have := blk_lt hM.cells.1; omega)
  have r' := RowO.anew (ow := ow) (o := .mach) (owns_keep ho ((Keep.refl (fun b => b = σ.mb) w2).setCell (p := ⟨σ.mb, 1, none⟩) rfl q') (fun b hb2 e => hnm b hb2 e)) (w := w) (fun b hb2 => (hn b hb2).imp (fun h => ⟨own_lt hM.queue.1 b h, hM.queue.2 b h⟩) id)
  exact h.mach_put hM rfl rfl rfl rfl hM.gl K1 (heap_setCell_same w2 _ 1 _ _ _ c2) r'
    (hM.timers.stay K2 (fun b h1 h2 => h2.elim (fun h2 => (hb.2.2.1 b h1).1 h2) (fun h2 => hb.1.2.1 (h2 ▸ h1))) (.frm _)) (hM.events.stay K2 (fun b h1 h2 => h2.elim (fun h2 => (hb.2.2.2.1 b h1).1 h2) (fun h2 => hb.1.2.2.1 (h2 ▸ h1))) (.frm _)) (hM.steps.stay K2 (fun b h1 h2 => h2.elim (fun h2 => (hb.2.2.2.2 b h1).1 h2) (fun h2 => hb.1.2.2.2 (h2 ▸ h1))) (.frm _))
theorem Inv.timersPut (h : Inv B P σ ow m w) (hM : MachC B P σ ow w m q tv ev sv G0 G1 G2 G3) {l' : List (Int × Nat)} {q' : Value} (hk : Keep (fun b => tv.ownBlock = some b) w w2) (ho : w2.ownsRow B 104 2 q' l'.length (l'.flatMap (tmC σ))) (hn : ∀ b, q'.ownBlock = some b → tv.ownBlock = some b ∨ w.heap.size ≤ b) :
    Res B P σ ow { m with timers := l' } w (w2.setCell ⟨σ.mb, 7, none⟩ q') := by
  have hb := hM.apart
  have K1 : Keep (fun b => ow b = some .mach) w (w2.setCell ⟨σ.mb, 7, none⟩ q') := (hk.mono (fun b _ e => hM.timers.2 b e)).setCell (p := ⟨σ.mb, 7, none⟩) hM.cells.2 q'
  have K2 : Keep (fun b => tv.ownBlock = some b ∨ b = σ.mb) w (w2.setCell ⟨σ.mb, 7, none⟩ q') := (hk.mono (fun b _ e => .inl e)).setCell (p := ⟨σ.mb, 7, none⟩) (.inr rfl) q'
  have c2 := (hk.block σ.mb (blk_lt hM.cells.1) hb.1.2.1).trans hM.cells.1
  have hnm : ∀ b, q'.ownBlock = some b → b ≠ σ.mb := fun b hb2 e => (hn b hb2).elim (fun h => hb.1.2.1 (e ▸ h)) (fun h => by have := blk_lt hM.cells.1; omega)
  have r' := RowO.anew (ow := ow) (o := .mach) (owns_keep ho ((Keep.refl (fun b => b = σ.mb) w2).setCell (p := ⟨σ.mb, 7, none⟩) rfl q') (fun b hb2 e => hnm b hb2 e)) (w := w) (fun b hb2 => (hn b hb2).imp (fun h => ⟨own_lt hM.timers.1 b h, hM.timers.2 b h⟩) id)
  exact h.mach_put hM rfl rfl rfl rfl hM.gl K1 (heap_setCell_same w2 _ 7 _ _ _ c2)
    (hM.queue.stay K2 (fun b h1 h2 => h2.elim (fun h2 => (hb.2.1 b h1).1 h2) (fun h2 => hb.1.1 (h2 ▸ h1))) (.frm _)) r' (hM.events.stay K2 (fun b h1 h2 => h2.elim (fun h2 => (hb.2.2.2.1 b h1).2.1 h2) (fun h2 => hb.1.2.2.1 (h2 ▸ h1))) (.frm _)) (hM.steps.stay K2 (fun b h1 h2 => h2.elim (fun h2 => (hb.2.2.2.2 b h1).2.1 h2) (fun h2 => hb.1.2.2.2 (h2 ▸ h1))) (.frm _))
theorem Inv.eventsPut (h : Inv B P σ ow m w) (hM : MachC B P σ ow w m q tv ev sv G0 G1 G2 G3) {l' : List EvP} {q' : Value} (hk : Keep (fun b => ev.ownBlock = some b) w w2) (ho : w2.ownsRow B 41 4 q' l'.length (l'.flatMap evC)) (hn : ∀ b, q'.ownBlock = some b → ev.ownBlock = some b ∨ w.heap.size ≤ b) :
    Res B P σ ow { m with events := l' } w (w2.setCell ⟨σ.mb, 9, none⟩ q') := by
  have hb := hM.apart
  have K1 : Keep (fun b => ow b = some .mach) w (w2.setCell ⟨σ.mb, 9, none⟩ q') := (hk.mono (fun b _ e => hM.events.2 b e)).setCell (p := ⟨σ.mb, 9, none⟩) hM.cells.2 q'
  have K2 : Keep (fun b => ev.ownBlock = some b ∨ b = σ.mb) w (w2.setCell ⟨σ.mb, 9, none⟩ q') := (hk.mono (fun b _ e => .inl e)).setCell (p := ⟨σ.mb, 9, none⟩) (.inr rfl) q'
  have c2 := (hk.block σ.mb (blk_lt hM.cells.1) hb.1.2.2.1).trans hM.cells.1
  have hnm : ∀ b, q'.ownBlock = some b → b ≠ σ.mb := fun b hb2 e => (hn b hb2).elim (fun h => hb.1.2.2.1 (e ▸ h)) (fun h => by have := blk_lt hM.cells.1; omega)
  have r' := RowO.anew (ow := ow) (o := .mach) (owns_keep ho ((Keep.refl (fun b => b = σ.mb) w2).setCell (p := ⟨σ.mb, 9, none⟩) rfl q') (fun b hb2 e => hnm b hb2 e)) (w := w) (fun b hb2 => (hn b hb2).imp (fun h => ⟨own_lt hM.events.1 b h, hM.events.2 b h⟩) id)
  exact h.mach_put hM rfl rfl rfl rfl hM.gl K1 (heap_setCell_same w2 _ 9 _ _ _ c2)
    (hM.queue.stay K2 (fun b h1 h2 => h2.elim (fun h2 => (hb.2.1 b h1).2.1 h2) (fun h2 => hb.1.1 (h2 ▸ h1))) (.frm _)) (hM.timers.stay K2 (fun b h1 h2 => h2.elim (fun h2 => (hb.2.2.1 b h1).2.1 h2) (fun h2 => hb.1.2.1 (h2 ▸ h1))) (.frm _)) r' (hM.steps.stay K2 (fun b h1 h2 => h2.elim (fun h2 => (hb.2.2.2.2 b h1).2.2 h2) (fun h2 => hb.1.2.2.2 (h2 ▸ h1))) (.frm _))
theorem Inv.stepsPut (h : Inv B P σ ow m w) (hM : MachC B P σ ow w m q tv ev sv G0 G1 G2 G3) {l' : List Int} {q' : Value} (hk : Keep (fun b => sv.ownBlock = some b) w w2) (ho : w2.ownsRow B 3 1 q' l'.length (l'.map (Value.int .i64))) (hn : ∀ b, q'.ownBlock = some b → sv.ownBlock = some b ∨ w.heap.size ≤ b) :
    Res B P σ ow { m with steps := l' } w (w2.setCell ⟨σ.mb, 11, none⟩ q') := by
  have hb := hM.apart
  have K1 : Keep (fun b => ow b = some .mach) w (w2.setCell ⟨σ.mb, 11, none⟩ q') := (hk.mono (fun b _ e => hM.steps.2 b e)).setCell (p := ⟨σ.mb, 11, none⟩) hM.cells.2 q'
  have K2 : Keep (fun b => sv.ownBlock = some b ∨ b = σ.mb) w (w2.setCell ⟨σ.mb, 11, none⟩ q') := (hk.mono (fun b _ e => .inl e)).setCell (p := ⟨σ.mb, 11, none⟩) (.inr rfl) q'
  have c2 := (hk.block σ.mb (blk_lt hM.cells.1) hb.1.2.2.2).trans hM.cells.1
  have hnm : ∀ b, q'.ownBlock = some b → b ≠ σ.mb := fun b hb2 e => (hn b hb2).elim (fun h => hb.1.2.2.2 (e ▸ h)) (fun h => by have := blk_lt hM.cells.1; omega)
  have r' := RowO.anew (ow := ow) (o := .mach) (owns_keep ho ((Keep.refl (fun b => b = σ.mb) w2).setCell (p := ⟨σ.mb, 11, none⟩) rfl q') (fun b hb2 e => hnm b hb2 e)) (w := w) (fun b hb2 => (hn b hb2).imp (fun h => ⟨own_lt hM.steps.1 b h, hM.steps.2 b h⟩) id)
  exact h.mach_put hM rfl rfl rfl rfl hM.gl K1 (heap_setCell_same w2 _ 11 _ _ _ c2)
    (hM.queue.stay K2 (fun b h1 h2 => h2.elim (fun h2 => (hb.2.1 b h1).2.2 h2) (fun h2 => hb.1.1 (h2 ▸ h1))) (.frm _)) (hM.timers.stay K2 (fun b h1 h2 => h2.elim (fun h2 => (hb.2.2.1 b h1).2.2 h2) (fun h2 => hb.1.2.1 (h2 ▸ h1))) (.frm _)) (hM.events.stay K2 (fun b h1 h2 => h2.elim (fun h2 => (hb.2.2.2.1 b h1).2.2 h2) (fun h2 => hb.1.2.2.1 (h2 ▸ h1))) (.frm _)) r'
theorem Inv.wordPut (h : Inv B P σ ow m w) (hM : MachC B P σ ow w m q tv ev sv G0 G1 G2 G3) {H0 H1 H2 H3 : PV} (hgl : m'.globals = [H0, H1, H2, H3]) (hg : m'.gors = m.gors) (hc : m'.chans = m.chans) (hx : m'.boxes = m.boxes) (hw : m'.ws = m.ws) (hq : m'.queue = m.queue) (ht : m'.timers = m.timers) (he : m'.events = m.events) (hs : m'.steps = m.steps)
    (hk : Keep (fun b => b = σ.mb) w w') (hcell : w'.heap[σ.mb]? = some (.cells #[P, q, encV σ H0, encV σ H1, encV σ H2, encV σ H3, .int .i64 m'.now, tv, .int .i64 m.gors.length, ev, .int .i64 m'.outcome, sv] 66 (0, 0))) : Res B P σ ow m' w w' := by
  have hb := hM.apart
  refine h.mach_put hM hg hc hx hw hgl (hk.mono (fun b _ e => e ▸ hM.cells.2)) (by rw [hg]; exact hcell) ?_ ?_ ?_ ?_
  · rw [hq]; exact hM.queue.stay hk (fun b h1 h2 => hb.1.1 (h2 ▸ h1)) (.frm _)
  · rw [ht]; exact hM.timers.stay hk (fun b h1 h2 => hb.1.2.1 (h2 ▸ h1)) (.frm _)
  · rw [he]; exact hM.events.stay hk (fun b h1 h2 => hb.1.2.2.1 (h2 ▸ h1)) (.frm _)
  · rw [hs]; exact hM.steps.stay hk (fun b h1 h2 => hb.1.2.2.2 (h2 ▸ h1)) (.frm _)
end
end Go.Proofs.YtklfboidjnchoaaGreatDoor
