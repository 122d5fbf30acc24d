/-
  The walk of the law ClockOnce.
-/
import Derived.Test.YtjjfemhpdhkolaaCLaw
import Derived.Deep.DeepCutAuto
import Derived.Deep.CutBlock
namespace Go.Proofs.Ytjjfemhpdhkolaa
open Go.RowKit
set_option linter.unusedVariables false

/-- The rest of a number taken as one without a sign. -/
def modI (a : Int) (k : Nat) : Int := (((IntKind.u64.wrap a).toNat % k : Nat) : Int)
theorem modI_spec (a : Int) (k : Nat) (hk : 0 < k) (hk1 : k < 4294967296) : (IntKind.u64.wrap a).tmod (k : Int) = modI a k ∧ 0 ≤ modI a k ∧ modI a k < k ∧ wrap64 (modI a k) = modI a k := by
  have h : 0 ≤ IntKind.u64.wrap a := by rw [IntKind.wrap_u64]; omega
  obtain ⟨m, hm⟩ := Int.eq_ofNat_of_zero_le h
  have hlt := Nat.mod_lt m hk
  have e : modI a k = ((m % k : Nat) : Int) := by unfold modI; rw [hm]; rfl
  rw [e]
  refine ⟨?_, by omega, by omega, IntWalk.wrap64_in _ (by omega)⟩
  rw [hm, Int.tmod_eq_emod_of_nonneg (by omega)]
  simp
attribute [irreducible] modI

theorem adds {v : Nat → Int} {n : Nat} {l : List CE} (h : Told v n l) (i j : Nat) (x y : CE) (hx : l[i]? = some x) (hy : l[j]? = some y) (hij : i < j) : x.1 < y.1 ∨ x.1 = y.1 ∧ x.2 < y.2 := by
  have h1 := (List.getElem?_eq_some_iff.1 hx).1
  have h2 := (List.getElem?_eq_some_iff.1 hy).1
  have := List.pairwise_iff_getElem.1 h.1 i j h1 h2 hij
  rwa [(List.getElem?_eq_some_iff.1 hx).2, (List.getElem?_eq_some_iff.1 hy).2] at this
/-- Nobody stands there twice. -/
theorem told_not {v : Nat → Int} {n : Nat} {l : List CE} (h : Told v n l) (j : Nat) (y : CE) (hy : l[j]? = some y) : y.2 ∉ (l.take j).map (·.2) := by
  intro hm
  rw [List.mem_map] at hm
  obtain ⟨x, hx, he⟩ := hm
  obtain ⟨i, hi, rfl⟩ := List.mem_take_iff_getElem.1 hx
  have hil : i < l.length := by omega
  have hl := adds h i j _ y (List.getElem?_eq_getElem hil) hy (by omega)
  obtain ⟨a, ha, e1⟩ := h.2.2 _ (List.getElem_mem hil)
  obtain ⟨b, hb, e2⟩ := h.2.2 y (List.mem_of_getElem? hy)
  rw [e1, e2] at he hl
  simp at he
  have hab : a = b := by omega
  subst hab
  simp at hl

theorem due_at {v : Nat → Int} {p : Nat} {L : List CE} (hT : Told v p L) {j : Nat} {now now' : Int} (hnow : ∀ x ∈ L.drop j, now < x.1) (i : Nat) (x : Int) (hx : (cDue (L.drop j) now')[i]? = some x) :
    ∃ a : Nat, a < p ∧ x = (a : Int) ∧ L[j + i]? = some (v a, (a : Int)) ∧ now < v a ∧ v a ≤ now' := by
  unfold cDue at hx
  rw [List.getElem?_map, Option.map_eq_some_iff] at hx
  obtain ⟨y, hy, rfl⟩ := hx
  have h1 := cutN_before y (List.mem_of_getElem? hy)
  rw [List.getElem?_take] at hy
  split at hy
  · have h2 := hnow y (List.mem_of_getElem? hy)
    rw [List.getElem?_drop] at hy
    obtain ⟨a, ha, rfl⟩ := hT.2.2 y (List.mem_of_getElem? hy)
    exact ⟨a, ha, rfl, hy, h2, h1⟩
  · cases hy
theorem due_len {L : List CE} {t : Int} : (cDue L t).length = cutN L t := by
  unfold cDue
  have := cutN_le L t
  rw [List.length_map, List.length_take]
  omega

/-- A clock of the call's own, and a row of the call's own that grows beside it. -/
def CW (B : Nat) (w : World) (q : Nat) (l : List CE) (so : Option Addr) (j sc : Nat) (xs : List Value) : Prop :=
  ∃ P, CIn w q P l ∧ (∀ k, P k → B ≤ k) ∧ B ≤ w.heap.size ∧ w.ownsRow B 3 1 (.slice so j sc) j xs ∧ ∀ b, (Value.slice so j sc).ownBlock = some b → ¬ P b
/-- A row that is read meanwhile. -/
def RD (w : World) (a2 : Option Addr) (ds : List Value) (so : Option Addr) (j sc : Nat) : Prop := RowAt w a2 ds ∧ ∀ b o, a2 = some ⟨b, o, none⟩ → (Value.slice so j sc).ownBlock ≠ some b ∧ b < w.heap.size

theorem CW.cb {B : Nat} {w : World} {q : Nat} {l : List CE} {so : Option Addr} {j sc : Nat} {xs : List Value} (h : CW B w q l so j sc xs) : CB B w q l := by
  obtain ⟨P, h1, h2, h3, _⟩ := h
  exact ⟨P, h1, h2, h3⟩
theorem CW.owns {B : Nat} {w : World} {q : Nat} {l : List CE} {so : Option Addr} {j sc : Nat} {xs : List Value} (h : CW B w q l so j sc xs) : w.ownsRow B 3 1 (.slice so j sc) j xs := by
  obtain ⟨P, h1, h2, h3, h4, _⟩ := h
  exact h4
theorem CW.size {B : Nat} {w : World} {q : Nat} {l : List CE} {so : Option Addr} {j sc : Nat} {xs : List Value} (h : CW B w q l so j sc xs) : B ≤ w.heap.size := by
  obtain ⟨P, h1, h2, h3, h4, _⟩ := h
  exact h3
theorem CW.below {B : Nat} {w w' : World} {q : Nat} {l : List CE} {so : Option Addr} {j sc : Nat} {xs : List Value} (h : CW B w q l so j sc xs) (hb : Below w.heap.size w w') : CW B w' q l so j sc xs := by
  obtain ⟨P, h1, h2, h3, h4, h5⟩ := h
  exact ⟨P, h1.below hb, h2, Nat.le_trans h3 hb.size, owns_below h4 hb, h5⟩
theorem RD.below {w w' : World} {a2 : Option Addr} {ds : List Value} {so : Option Addr} {j sc : Nat} (h : RD w a2 ds so j sc) (hb : Below w.heap.size w w') : RD w' a2 ds so j sc :=
  ⟨h.1.below hb, fun b o e => ⟨(h.2 b o e).1, Nat.lt_of_lt_of_le (h.2 b o e).2 hb.size⟩⟩
theorem cw_new {B : Nat} {w : World} {q : Nat} {l : List CE} (h : CB B w q l) : CW B w q l none 0 0 [] := by
  obtain ⟨P, h1, h2, h3⟩ := h
  exact ⟨P, h1, h2, h3, World.ownsRow_nil _ _ _ _, by simp [Value.ownBlock]⟩
theorem cwDue {B : Nat} (w : World) (q : Nat) (l : List CE) (so : Option Addr) (j sc : Nat) (xs : List Value) (t : Int) (ds : List Int) (l' : List CE) (h : CW B w q l so j sc xs) (hl : l.length ≤ 900000) (hd : cDue l t = ds) (he : l.drop (cutN l t) = l') :
    Calls Try.prog 38 #[.pointer (some ⟨q, 0, none⟩), .int .i64 t] w fun e w' => ∃ a2 c2, e = .returned (.slice a2 ds.length c2) ∧ RD w' a2 (ds.map (Value.int .i64)) so j sc ∧ CW B w' q l' so j sc xs ∧ Below B w w' := by
  subst hd he
  obtain ⟨P, h1, h2, h3, h4, h5⟩ := h
  refine (cdue_any q P l t w h1 hl).mono fun e w' h => ?_
  obtain ⟨v, rfl, ⟨a2, c2, rfl, ha⟩, P', h6, hk, hn⟩ := h
  refine ⟨a2, c2, rfl, ⟨owns_row ha, ?_⟩, ⟨P', h6, fun k hp => ?_, Nat.le_trans h3 hk.size, owns_keep h4 hk (fun b e => h5 b e), fun b e hp => ?_⟩, hk.below h3 h2⟩
  · rintro b o rfl
    have := ha.lt b rfl
    refine ⟨fun e => ?_, this.2⟩
    have := (h4.lt b e).2
    omega
  · rcases hn k hp with h | h
    · exact h2 k h
    · omega
  · rcases hn b hp with h | h
    · exact h5 b e h
    · have := (h4.lt b e).2
      omega
theorem cwApp {B : Nat} {w w5 : World} {q : Nat} {l : List CE} {so a5 : Option Addr} {j sc c5 : Nat} {xs ys : List Value} {o : Obj} (h : CW B w q l so j sc xs) (ho : w5.ownsRow B 3 1 (.slice a5 (j + 1) c5) (j + 1) ys) (hg : (w.alloc o).grownBy w5 (Value.slice so j sc).ownBlock)
    (hw : (Value.slice a5 (j + 1) c5).ownBlock = (Value.slice so j sc).ownBlock ∨ (Value.slice a5 (j + 1) c5).ownBlock = some (w.alloc o).heap.size) : CW B w5 q l a5 (j + 1) c5 ys ∧ Below B w w5 := by
  obtain ⟨P, h1, h2, h3, h4, h5⟩ := h
  have hk : Keep (fun k => (Value.slice so j sc).ownBlock = some k) w w5 := (Keep.refl _ _ |>.alloc _).then (.of_grown hg (fun k hk => hk)) (fun i _ h => h)
  refine ⟨⟨P, h1.keep hk (fun k hp e => h5 k e hp), h2, Nat.le_trans h3 hk.size, ho, fun b e hp => ?_⟩, hk.below h3 (fun k e => (h4.lt k e).1)⟩
  rcases hw with e1 | e1
  · exact h5 b (e1 ▸ e) hp
  · rw [e1] at e
    cases e
    obtain ⟨_, _, _, hlt⟩ := h1
    have := hlt _ hp
    simp at this
    omega
theorem rdApp {w w5 : World} {so a5 a2 : Option Addr} {j sc c5 : Nat} {ds : List Value} {o : Obj} (h : RD w a2 ds so j sc) (hg : (w.alloc o).grownBy w5 (Value.slice so j sc).ownBlock)
    (hw : (Value.slice a5 (j + 1) c5).ownBlock = (Value.slice so j sc).ownBlock ∨ (Value.slice a5 (j + 1) c5).ownBlock = some (w.alloc o).heap.size) : RD w5 a2 ds a5 (j + 1) c5 := by
  have hk : Keep (fun k => (Value.slice so j sc).ownBlock = some k) w w5 := (Keep.refl _ _ |>.alloc _).then (.of_grown hg (fun k hk => hk)) (fun i _ h => h)
  refine ⟨row_keep h.1 hk (fun b o e => (h.2 b o e).1), fun b o e => ⟨fun e2 => ?_, Nat.lt_of_lt_of_le (h.2 b o e).2 hk.size⟩⟩
  rcases hw with e1 | e1
  · exact (h.2 b o e).1 (e1 ▸ e2)
  · rw [e1] at e2
    cases e2
    have := (h.2 _ o e).2
    simp at this
    omega

theorem inNo (ao : Option Addr) (n c : Nat) (l : List Int) (x : Int) (w : World) (hr : RowAt w ao (l.map (Value.int .i64))) (hn : l.length = n) (hmax : n ≤ 140737488355328) (hb : x ∉ l) :
    Calls Try.prog 28 #[.slice ao n c, .int .i64 x] w fun e w' => e = .returned (.bool false) ∧ w = w' := by
  have h : decide (x ∈ l) = false := by simp [hb]
  rw [← h]
  exact in_any ao n c l x w hr hn hmax

set_option maxRecDepth 100000 in
set_option maxHeartbeats 6400000 in
theorem clockOnce_any (ao bo : Option Addr) (n c m d : Nat) (zs ys : List Int) (w : World) (hr : RowAt w ao (zs.map (Value.int .i64))) (hn : zs.length = n) (hnc : n ≤ c) (hc : c ≤ 9223372036854775807) (hs : RowAt w bo (ys.map (Value.int .i64))) (hm : ys.length = m) (hmd : m ≤ d) (hd : d ≤ 9223372036854775807) :
    Calls Try.prog 12 #[.slice ao n c, .slice bo m d] w fun e w' => e = .returned (.bool true) ∧ Below w.heap.size w w' := by
  have Hn := hidP hn
  have Hm := hidP hm
  clear hn hm
  obtain ⟨v, hv⟩ : ∃ v : Nat → Int, v = fun i => modI (zs.getD i 0) 50 := ⟨_, rfl⟩
  have hvb : ∀ i, 0 ≤ v i ∧ v i < 50 := fun i => by rw [hv]; have := modI_spec (zs.getD i 0) 50 (by omega) (by omega); exact ⟨this.2.1, this.2.2.1⟩
  have hvz : ∀ i z, zs[i]? = some z → (IntKind.u64.wrap z).tmod 50 = v i := fun i z hz => by
    rw [hv]
    simp only [List.getD_eq_getElem?_getD, hz, Option.getD_some]
    exact (modI_spec z 50 (by omega) (by omega)).1
  have hvw : ∀ i, wrap64 (v i) = v i := fun i => IntWalk.wrap64_in _ (by have := hvb i; omega)
  have HVB := hidP hvb
  have HVZ := hidP hvz
  have HVW := hidP hvw
  clear hvb hvz hvw hv
  obtain ⟨p, hp⟩ : ∃ p : Nat, p = min n 40 := ⟨_, rfl⟩
  have hmi : min (n : Int) 40 = (p : Int) := by omega
  have hp40 : p ≤ 40 := by omega
  have hpn : p ≤ n := by omega
  clear hp
  go_enter Try.func12, Try.ntmps12
  go_wp2_with fail
  refine (cnew_any _).mono ?_
  rintro e w1 ⟨rfl, rfl⟩
  have h1 := cb_new w (Nat.le_refl _)
  have hb1 := bnew (brefl w) (.cells #[.slice none 0 0] 85)
  go_wp2_with (go_at_call 37; refine (awake19_any _).mono ?_; rintro e w2 ⟨rfl, hb2⟩)
  have h2 := h1.below hb2
  have hB2 := bstep hb1 hb2
  clear h1 hb1 hb2
  try rw [hmi]
  go_loopw [7] (fun u wr => ∃ (k : Nat) (l : List CE), u = .int .i64 k ∧ k ≤ p ∧ l.length ≤ k ∧ Hid (Told v k l) ∧ CB w.heap.size wr w.heap.size l ∧ Below w.heap.size w wr) (fun u _ => p - (intOf u).toNat)
  case atStart => exact ⟨0, [], rfl, by omega, by simp, told_nil v, h2, hB2⟩
  case round =>
    obtain ⟨k, l, rfl, hkp, hlk, HT, h3, hb3⟩ := hrel
    by_cases hlt : k < p
    · obtain ⟨b, o, rfl, hca⟩ := (hr.below hb3).addr (by rw [List.length_map, Hn.out]; omega)
      obtain ⟨z, hz⟩ : ∃ z, zs[k]? = some z := ⟨_, List.getElem?_eq_getElem (by rw [Hn.out]; omega)⟩
      have cz : wr.cell? ⟨b, o + k, none⟩ = some (.int .i64 z) := hca k _ (by rw [List.getElem?_map, hz]; rfl)
      have hzv := HVZ.out k z hz
      have hzw := HVW.out k
      have Hzv := hidP hzv
      clear hz hca
      go_wp2_with (go_at_call 40; refine (cbAdd _ _ l (v k) k _ h3 (by omega) rfl).mono ?_; rintro e w4 ⟨rfl, h4, hb4⟩)
      go_roundw
      case rel => exact ⟨k + 1, _, by go_num, by omega, by rw [length_cAdd]; omega, told_add HT.out, h4, hb3.trans hb4⟩
      case measure => simp [intOf]; omega
    · obtain rfl : k = p := by omega
      have HL : Hid (l.length = k) := HT.out.2.1
      clear hlt hkp hlk
      go_wp2_with fail
      go_loopw [8, 9, 10] (fun v8 v9 v wr => ∃ (i j : Nat) (now : Int) (so : Option Addr) (sc : Nat), v8 = .int .i64 now ∧ v9 = .slice so j sc ∧ v = .int .i64 i ∧ i ≤ m ∧ i ≤ 60 ∧ j ≤ k ∧ -1 ≤ now ∧ now ≤ 6 * i ∧ Hid (∀ x ∈ l.drop j, now < x.1) ∧ CW w.heap.size wr w.heap.size (l.drop j) so j sc (((l.take j).map (·.2)).map (Value.int .i64)) ∧ Below w.heap.size w wr) (fun _ _ u _ => m - (intOf u).toNat)
      case atStart => exact ⟨0, 0, -1, none, 0, rfl, rfl, rfl, by omega, by omega, by omega, by omega, by omega, fun x hx => by obtain ⟨a, _, rfl⟩ := HT.out.2.2 x hx; have := HVB.out a; show (-1 : Int) < v a; omega, cw_new h3, hb3⟩
      case round =>
        clear h3 hb3
        obtain ⟨i, j, now, so, sc, rfl, rfl, rfl, him, hi60, hjk, hn0, hn1, HN, h3, hb3⟩ := hrel
        by_cases hlt : i < m ∧ i < 60
        · obtain ⟨hlt, hlt1⟩ := hlt
          obtain ⟨b, o, rfl, hca⟩ := (hs.below hb3).addr (by rw [List.length_map, Hm.out]; omega)
          obtain ⟨y, hy⟩ : ∃ y, ys[i]? = some y := ⟨_, List.getElem?_eq_getElem (by rw [Hm.out]; omega)⟩
          have cy : wr.cell? ⟨b, o + i, none⟩ = some (.int .i64 y) := hca i _ (by rw [List.getElem?_map, hy]; rfl)
          obtain ⟨u, hu⟩ : ∃ u, modI y 6 = u := ⟨_, rfl⟩
          obtain ⟨e1, e2, e3, e4⟩ := modI_spec y 6 (by omega) (by omega)
          rw [hu] at e1 e2 e3 e4
          have e5 : (IntKind.u64.wrap y).tmod 6 = u := e1
          obtain ⟨now', hnow⟩ : ∃ x, now + u = x := ⟨_, rfl⟩
          have HNW := hidP hnow
          have hn3 : now' ≤ 6 * ((i : Int) + 1) := by omega
          have hn4 : -1 ≤ now' := by omega
          clear hy hca hu e1 hnow
          have hca : ∀ (q : Nat) (x : Int), (cDue (l.drop j) now')[q]? = some x → ∃ (a : Nat) (z : Int), a < k ∧ x = (a : Int) ∧ l[j + q]? = some (v a, (a : Int)) ∧ now < v a ∧ v a ≤ now' ∧ zs[a]? = some z ∧ (IntKind.u64.wrap z).tmod 50 = v a := by
            intro q x hx
            obtain ⟨a, ha, e, h1, h2, h3⟩ := due_at HT.out HN.out q x hx
            obtain ⟨z, hz⟩ : ∃ z, zs[a]? = some z := ⟨_, List.getElem?_eq_getElem (by rw [Hn.out]; omega)⟩
            exact ⟨a, z, ha, e, h1, h2, h3, hz, HVZ.out a z hz⟩
          have hlast : ∀ x ∈ (l.drop j).drop (cutN (l.drop j) now'), now' < x.1 := byw_behind (byw_drop (lexw_byw HT.out.1) j)
          have hcl := cutN_le (l.drop j) now'
          rw [List.length_drop, HL.out] at hcl
          have hdl := due_len (L := l.drop j) (t := now')
          have h5 := cwDue wr w.heap.size (l.drop j) so j sc _ now' _ _ h3 (by rw [List.length_drop, HL.out]; omega) rfl rfl
          rw [List.drop_drop] at h5 hlast
          generalize cutN (l.drop j) now' = D at *
          generalize cDue (l.drop j) now' = ds at *
          have HDS := hidP hca
          have HDL := hidP hdl
          have HLA := hidP hlast
          clear hca hdl hlast
          rw [HDL.out] at h5
          go_upto_region 16 with fail
          rw [HNW.out]
          go_wp2_with (go_at_call 38; refine h5.mono ?_; rintro e w4 ⟨a4, c4, rfl, hrd, h4, hb4⟩; have hB4 := hb3.trans hb4; clear hb3 hb4 h3)
          go_loopw [9, 13] (fun v9 u wq => ∃ (q : Nat) (so : Option Addr) (sc : Nat), v9 = .slice so (j + q) sc ∧ u = .int .i64 q ∧ q ≤ D ∧ CW w.heap.size wq w.heap.size (l.drop (j + D)) so (j + q) sc (((l.take (j + q)).map (·.2)).map (Value.int .i64)) ∧ RD wq a4 (ds.map (Value.int .i64)) so (j + q) sc ∧ Below w.heap.size w wq) (fun _ u _ => D - (intOf u).toNat)
          case atStart => exact ⟨0, so, sc, rfl, rfl, by omega, h4, hrd, hB4⟩
          case round =>
            clear h4 hrd hB4 h5
            obtain ⟨q, so, sc, rfl, rfl, hqD, h4, hrd, hB4⟩ := hrel
            have hjq : (((l.take (j + q)).map (·.2))).length = j + q := by rw [List.length_map, List.length_take, HL.out]; omega
            have HJQ := hidP hjq
            clear hjq
            by_cases hq : q < D
            · obtain ⟨b3, o3, rfl, hca⟩ := hrd.1.addr (by rw [List.length_map, HDL.out]; omega)
              obtain ⟨x, hx⟩ : ∃ x, ds[q]? = some x := ⟨_, List.getElem?_eq_getElem (by rw [HDL.out]; omega)⟩
              obtain ⟨a, z, hak, rfl, hla, hv1, hv2, hza, hz50⟩ := HDS.out q x hx
              have cx : wr.cell? ⟨b3, o3 + q, none⟩ = some (.int .i64 (a : Int)) := hca q _ (by rw [List.getElem?_map, hx]; rfl)
              have hno : (a : Int) ∉ (l.take (j + q)).map (·.2) := told_not HT.out (j + q) _ hla
              have hin := inNo so (j + q) sc ((l.take (j + q)).map (·.2)) (a : Int) wr (owns_row h4.owns) HJQ.out (by omega) hno
              obtain ⟨b2, o2, rfl, hcz⟩ := (hr.below hB4).addr (by rw [List.length_map, Hn.out]; omega)
              have cz : wr.cell? ⟨b2, o2 + a, none⟩ = some (.int .i64 z) := hcz a _ (by rw [List.getElem?_map, hza]; rfl)
              have hvw := HVW.out a
              have hvb := HVB.out a
              have HIN := hidP hin
              have HLQ : Hid (l[j + q]? = some (v a, (a : Int))) := hla
              have HTK : Hid ((((l.take (j + (q + 1))).map (·.2)).map (Value.int .i64)) = ((l.take (j + q)).map (·.2)).map (Value.int .i64) ++ [.int .i64 (a : Int)]) := by
                show _ = _
                rw [← Nat.add_assoc, List.take_add_one, hla]
                simp
              clear hno hin hcz hza hla hx
              have g1 : ¬ ((a : Int) < 0) := by omega
              have g2 : ¬ ((k : Int) ≤ (a : Int)) := by omega
              have g3 : ¬ (v a ≤ now) := by omega
              have g4 : ¬ (now' < v a) := by omega
              go_upto_region 25 with (
                (go_at_call 28; refine HIN.out.mono ?_; rintro e w5 ⟨rfl, rfl⟩)
                )
              by_cases hq0 : q = 0
              · have hz0 : ¬ ((0 : Int) < (q : Int)) := by omega
                clear hq0
                go_wp2_with (
                  (at_builtin; go_loud (refine (wpList_app _ rfl (.tmp 143) (.tmp 148) rfl Try.slInt w.heap.size (.slice so (j + q) sc) (j + q) (((l.take (j + q)).map (·.2)).map (Value.int .i64)) rfl (h4.owns.alloc _) _ 1 1 [.int .i64 (a : Int)] rfl (j + q + 1) rfl (RowAt.new _ [.int .i64 (a : Int)] _) rfl (by simp; rfl) (by omega) (by unfold maxLen; omega) (Nat.le_trans h4.size (by simp)) ?_)); intro a5 c5 w5 ho5 hg5 hw5)
                  )
                obtain ⟨h6, hb6⟩ := cwApp h4 ho5 hg5 hw5
                have hrd6 := rdApp hrd hg5 hw5
                rw [← HTK.out] at h6
                exact ⟨⟨q + 1, a5, c5, rfl, by go_num, by omega, h6, hrd6, hB4.trans hb6⟩, by simp [intOf]; omega⟩
              · obtain ⟨x', hx'⟩ : ∃ x, ds[q - 1]? = some x := ⟨_, List.getElem?_eq_getElem (by rw [HDL.out]; omega)⟩
                obtain ⟨a', z', hak', rfl, hla', _, _, hza', hz50'⟩ := HDS.out (q - 1) x' hx'
                have cx' : wr.cell? ⟨b3, o3 + (q - 1), none⟩ = some (.int .i64 (a' : Int)) := hca (q - 1) _ (by rw [List.getElem?_map, hx']; rfl)
                have cz' : wr.cell? ⟨b2, o2 + a', none⟩ = some (.int .i64 z') := (hr.below hB4).some a' _ (by rw [List.getElem?_map, hza']; rfl)
                have hlex := adds HT.out (j + (q - 1)) (j + q) _ _ hla' HLQ.out (by omega)
                have hvw' := HVW.out a'
                have hvb' := HVB.out a'
                dsimp only at hlex
                have hi2 : IntKind.i64.wrap ((q : Int) - 1) = (q : Int) - 1 := IntWalk.i64_in _ (by omega)
                have hi3 : ((q : Int) - 1).toNat = q - 1 := by omega
                have hi4 : (0 : Int) ≤ (q : Int) - 1 := by omega
                have hi5 : (q : Int) - 1 < (D : Int) := by omega
                have hi6 : (0 : Int) < (q : Int) := by omega
                clear hla' hza' hx' hca
                generalize v a' = V' at *
                generalize v a = V at *
                by_cases hVV : V' = V
                · have g7 : (V' == V) = true := by simp [hVV]
                  have g8 : ¬ ((a : Int) < (a' : Int)) := by omega
                  have g9 : ¬ (V < V') := by omega
                  go_upto_region 27 with fail
                  go_quiet (fail)
                  rename_i nq
                  have h4 := h4.below (below_drewN (brefl wr) nq)
                  have hrd := hrd.below (below_drewN (brefl wr) nq)
                  have hB4 := bstep hB4 (below_drewN (brefl wr) nq)
                  go_wp2_with (
                    (at_builtin; go_loud (refine (wpList_app _ rfl (.tmp 143) (.tmp 148) rfl Try.slInt w.heap.size (.slice so (j + q) sc) (j + q) (((l.take (j + q)).map (·.2)).map (Value.int .i64)) rfl (h4.owns.alloc _) _ 1 1 [.int .i64 (a : Int)] rfl (j + q + 1) rfl (RowAt.new _ [.int .i64 (a : Int)] _) rfl (by simp; rfl) (by omega) (by unfold maxLen; omega) (Nat.le_trans h4.size (by simp)) ?_)); intro a5 c5 w5 ho5 hg5 hw5)
                    )
                  obtain ⟨h6, hb6⟩ := cwApp h4 ho5 hg5 hw5
                  have hrd6 := rdApp hrd hg5 hw5
                  rw [← HTK.out] at h6
                  exact ⟨⟨q + 1, a5, c5, rfl, by go_num, by omega, h6, hrd6, hB4.trans hb6⟩, by simp [intOf]; omega⟩
                · have g7 : (V' == V) = false := by simp [hVV]
                  have g9 : ¬ (V < V') := by omega
                  go_upto_region 27 with fail
                  go_quiet (fail)
                  rename_i nq
                  have h4 := h4.below (below_drewN (brefl wr) nq)
                  have hrd := hrd.below (below_drewN (brefl wr) nq)
                  have hB4 := bstep hB4 (below_drewN (brefl wr) nq)
                  go_wp2_with (
                    (at_builtin; go_loud (refine (wpList_app _ rfl (.tmp 143) (.tmp 148) rfl Try.slInt w.heap.size (.slice so (j + q) sc) (j + q) (((l.take (j + q)).map (·.2)).map (Value.int .i64)) rfl (h4.owns.alloc _) _ 1 1 [.int .i64 (a : Int)] rfl (j + q + 1) rfl (RowAt.new _ [.int .i64 (a : Int)] _) rfl (by simp; rfl) (by omega) (by unfold maxLen; omega) (Nat.le_trans h4.size (by simp)) ?_)); intro a5 c5 w5 ho5 hg5 hw5)
                    )
                  obtain ⟨h6, hb6⟩ := cwApp h4 ho5 hg5 hw5
                  have hrd6 := rdApp hrd hg5 hw5
                  rw [← HTK.out] at h6
                  exact ⟨⟨q + 1, a5, c5, rfl, by go_num, by omega, h6, hrd6, hB4.trans hb6⟩, by simp [intOf]; omega⟩
            · have hqe : q = D := by omega
              subst hqe
              obtain ⟨J, hJ⟩ : ∃ J, j + q = J := ⟨_, rfl⟩
              rw [hJ] at h4 hrd HLA HJQ
              have hJk : J ≤ k := by omega
              have hlJ : (l.drop J).length = k - J := by rw [List.length_drop, HL.out]
              have hc0 : cutN (l.drop J) now' = 0 := cutN_zero HLA.out
              have hd0 : cDue (l.drop J) now' = [] := by unfold cDue; rw [hc0]; rfl
              have he0 : (l.drop J).drop (cutN (l.drop J) now') = l.drop J := by rw [hc0]; rfl
              have h7 := cwDue wr w.heap.size (l.drop J) so J sc _ now' [] (l.drop J) h4 (by rw [hlJ]; omega) hd0 he0
              have hln : ((l.drop J).length : Int) = (k : Int) - (J : Int) := by rw [hlJ]; omega
              have HLN := hidP hln
              have hlJ9 : (l.drop J).length ≤ 900000 := by rw [hlJ]; omega
              obtain ⟨l2, hl2⟩ : ∃ l2, l.drop J = l2 := ⟨_, rfl⟩
              rw [hl2] at h7 HLN hlJ9
              clear hlJ hc0 hd0 he0 hln hrd h4
              rw [hJ]
              go_wp2_with (first
                | (go_at_call 38; refine h7.mono ?_; rintro e w8 ⟨a8, c8, rfl, hrd8, h8, hb8⟩)
                | (go_at_call 43; refine (cbLen w8 w.heap.size l2 h8.cb hlJ9).mono ?_; rw [HLN.out]; rintro e w9 ⟨rfl, hb9⟩))
              subst hl2
              exact ⟨⟨i + 1, J, now', so, sc, rfl, rfl, by go_num, by omega, by omega, hJk, hn4, by push_cast; exact hn3, HLA, h8.below hb9, bstep (hB4.trans hb8) hb9⟩, by simp [intOf]; omega⟩
        · have hd : (i : Int) < m → ¬ (i : Int) < 60 := by omega
          go_wp2_with (first
            | (go_at_call 40; refine (caddNil_any 1 1 _).mono ?_; rintro e w5 ⟨rfl, hb5⟩)
            | (go_at_call 38; refine (cdueNil_any 5 _).mono ?_; rintro e w6 ⟨rfl, hb6⟩)
            | (go_at_call 42; refine (callNil_any _).mono ?_; rintro e w7 ⟨rfl, rfl⟩)
            | (go_at_call 43; refine (clenNil_any _).mono ?_; rintro e w8 ⟨rfl, rfl⟩))
          all_goals
            go_ret
            exact ⟨rfl, bstep (bstep hb3 hb5) hb6⟩

theorem clockOnceW (w : World) (ao : Option Addr) (n c : Nat) (zs : List Int) (hr : RowAt w ao (zs.map (Value.int .i64))) (hn : zs.length = n) (hb : (∀ z ∈ zs, (Lit.int .i64 z).wf = true) ∧ n ≤ c ∧ c ≤ maxLen)
    (bo : Option Addr) (m d : Nat) (ys : List Int) (hs : RowAt w bo (ys.map (Value.int .i64))) (hm : ys.length = m) (hb2 : (∀ z ∈ ys, (Lit.int .i64 z).wf = true) ∧ m ≤ d ∧ d ≤ maxLen) :
    Calls Try.prog 12 #[.slice ao n c, .slice bo m d] w fun e w' => e = .returned (.bool true) ∧ Below w.heap.size w w' :=
  clockOnce_any ao bo n c m d zs ys w hr hn hb.2.1 (by have := hb.2.2; unfold maxLen at this; omega) hs hm hb2.2.1 (by have := hb2.2.2; unfold maxLen at this; omega)
end Go.Proofs.Ytjjfemhpdhkolaa
