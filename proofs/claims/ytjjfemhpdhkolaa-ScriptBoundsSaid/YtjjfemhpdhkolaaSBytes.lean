/-
  The walks over package script that tell entries as bytes.
-/
import Derived.Test.YtjjfemhpdhkolaaJoins
import Derived.Test.YtjjfemhpdhkolaaSSpec
import Derived.Deep.DeepCutAuto
import Derived.Deep.CutBlock
namespace Go.Proofs.Ytjjfemhpdhkolaa
open Go.RowKit
set_option linter.unusedVariables false

theorem kinds_tab (k : Nat) (h : k < kindsB.size) : ((kindsB[k]'h).toNat : Int) = if k < 10 then 112 else if k < 12 then 116 else if k < 15 then 99 else 102 := by
  have h16 : k < 16 := h
  have : k = 0 ∨ k = 1 ∨ k = 2 ∨ k = 3 ∨ k = 4 ∨ k = 5 ∨ k = 6 ∨ k = 7 ∨ k = 8 ∨ k = 9 ∨ k = 10 ∨ k = 11 ∨ k = 12 ∨ k = 13 ∨ k = 14 ∨ k = 15 := by omega
  rcases this with h | h | h | h | h | h | h | h | h | h | h | h | h | h | h | h <;> subst h <;> rfl

set_option maxRecDepth 100000 in
set_option maxHeartbeats 400000 in
theorem first_any (c : Int) (f : Nat) (w : World) (h : (c = 112 ∧ f = 0) ∨ (c = 116 ∧ f = 10) ∨ (c = 99 ∧ f = 12) ∨ (c = 102 ∧ f = 15)) :
    Calls Try.prog 65 #[.int .i32 c] w fun e w' => e = .returned (.int .i64 (f * 16 : Nat)) ∧ Below w.heap.size w w' := by
  have HF := hidP h
  clear h
  go_enter Try.func65, Try.ntmps65
  go_wp2
  go_loopw [] (fun wr => ∃ k : Nat, k ≤ f ∧ wr = w.iter kindsB k) (fun wr => 16 - wr.iterPos w.heap.size)
  case atStart => exact ⟨0, by omega, rfl⟩
  case round =>
    obtain ⟨k, hk, rfl⟩ := hrel
    have hf16 : f < 16 := by have := HF.out; omega
    have hlt : k < kindsB.size := by show k < 16; omega
    have h16 : k < 16 := by omega
    have hnx := fun ty => run_next_ascii (P := Try.prog) w kindsB k ty hlt (kind_ascii k hlt)
    have hkt := hidP (kinds_tab k hlt)
    go_wp2
    · have he : (((kindsB[k]'hlt).toNat : Int) == c) = true := by assumption
      have hkf : k = f := by
        have h1 := HF.out
        have h2 := hkt.out
        rw [(by simpa using he : ((kindsB[k]'hlt).toNat : Int) = c)] at h2
        repeat' split at h2
        all_goals omega
      subst hkf
      go_ret
      refine ⟨?_, below_iter _ _ _⟩
      first | rfl | simp
    · have he : (((kindsB[k]'hlt).toNat : Int) == c) = false := by assumption
      go_roundw
      case rel =>
        refine ⟨k + 1, ?_, rfl⟩
        have h1 := HF.out
        have h2 := hkt.out
        have h3 := beq_eq_false_iff_ne.1 he
        rw [h2] at h3
        repeat' split at h3
        all_goals omega
      case measure => simp; omega

/-- The two numbers of an entry. -/
def pairI (e : Ent) : Int × Int := if e.kind = 1 then (IntKind.i64.wrap (0 + e.n), e.draw) else if e.kind = 2 then (160, e.n) else if e.kind = 3 then (192, e.n) else (240, 0)

set_option maxRecDepth 100000 in
set_option maxHeartbeats 1000000 in
theorem pair_any (x : Ent) (w : World) :
    Calls Try.prog 52 #[entV x] w fun e w' => e = .returned (.tuple #[.int .i64 (pairI x).1, .int .i64 (pairI x).2]) ∧ Below w.heap.size w w' := by
  obtain ⟨k, n, d⟩ := x
  unfold entV pairI
  dsimp only
  go_enter Try.func52, Try.ntmps52
  have hb0 := bnew (brefl w) (.cells #[.int .i64 k, .int .i64 n, .int .i64 d] 26)
  have hbx : w.heap.size < (w.alloc (.cells #[.int .i64 k, .int .i64 n, .int .i64 d] 26)).heap.size := by simp
  by_cases h1 : k = 1
  · subst h1
    rw [if_pos rfl]
    go_wp2_with fail
    go_region_held3 (fun w' => w'.cell? ⟨w.heap.size, 1, none⟩ = some (.int .i64 n) ∧ w'.cell? ⟨w.heap.size, 2, none⟩ = some (.int .i64 d))
      (first | go_keep | exact ⟨(hb1.cell (p := ⟨w.heap.size, 1, none⟩) hbx).trans (by go_simp), (hb1.cell (p := ⟨w.heap.size, 2, none⟩) hbx).trans (by go_simp)⟩ | fail)
      (first | (go_at_call 65; refine (first_any 112 0 _ (by simp)).mono ?_; rintro e w1 ⟨rfl, hb1⟩) | fail)
    go_wp2
    go_ret2
    exact ⟨rfl, hb0.drew.trans (hb1.mono hb0.size)⟩
  · have t1 : (k == 1) = false := by simp [h1]
    rw [if_neg h1]
    by_cases h2 : k = 2
    · subst h2
      rw [if_pos rfl]
      go_wp2_with fail
      go_region_held3 (fun w' => w'.cell? ⟨w.heap.size, 1, none⟩ = some (.int .i64 n) ∧ w'.cell? ⟨w.heap.size, 2, none⟩ = some (.int .i64 d))
        (first | go_keep | exact ⟨(hb1.cell (p := ⟨w.heap.size, 1, none⟩) hbx).trans (by go_simp), (hb1.cell (p := ⟨w.heap.size, 2, none⟩) hbx).trans (by go_simp)⟩ | fail)
        (first | (go_at_call 65; refine (first_any 116 10 _ (by simp)).mono ?_; rintro e w1 ⟨rfl, hb1⟩) | fail)
      go_wp2
      go_ret2
      exact ⟨rfl, hb0.drew.trans (hb1.mono hb0.size)⟩
    · have t2 : (k == 2) = false := by simp [h2]
      rw [if_neg h2]
      by_cases h3 : k = 3
      · subst h3
        rw [if_pos rfl]
        go_wp2_with fail
        go_region_held3 (fun w' => w'.cell? ⟨w.heap.size, 1, none⟩ = some (.int .i64 n) ∧ w'.cell? ⟨w.heap.size, 2, none⟩ = some (.int .i64 d))
          (first | go_keep | exact ⟨(hb1.cell (p := ⟨w.heap.size, 1, none⟩) hbx).trans (by go_simp), (hb1.cell (p := ⟨w.heap.size, 2, none⟩) hbx).trans (by go_simp)⟩ | fail)
          (first | (go_at_call 65; refine (first_any 99 12 _ (by simp)).mono ?_; rintro e w1 ⟨rfl, hb1⟩) | fail)
        go_wp2
        go_ret2
        exact ⟨rfl, hb0.drew.trans (hb1.mono hb0.size)⟩
      · have t3 : (k == 3) = false := by simp [h3]
        rw [if_neg h3]
        go_wp2_with (go_at_call 65; refine (first_any 102 15 _ (by simp)).mono ?_; rintro e w1 ⟨rfl, hb1⟩)
        go_ret2
        exact ⟨rfl, hb0.trans (hb1.mono hb0.size)⟩

set_option maxRecDepth 100000 in
set_option maxHeartbeats 1000000 in
theorem equalEnt_any (ao bo : Option Addr) (n m c d : Nat) (es fs : List Ent) (w : World) (hae : RowAt w ao (entsCells es)) (hbf : RowAt w bo (entsCells fs)) (hn : es.length = n) (hm : fs.length = m) (_hmax : n ≤ 140737488355328) :
    Calls Try.prog 53 #[.slice ao n c, .slice bo m d] w fun e w' => e = .returned (.bool (decide (es = fs))) ∧ Below w.heap.size w w' := by
  have Hn := hidP hn
  have Hm := hidP hm
  clear hn hm
  go_enter Try.func53, Try.ntmps53
  by_cases hnm : n = m
  · subst hnm
    go_wp2_with fail
    go_loopw [13] (fun i wr => ∃ k : Nat, i = .int .i64 k ∧ k ≤ n ∧ Hid (es.take k = fs.take k) ∧ Below w.heap.size w wr) (fun i _ => n - (intOf i).toNat)
    case atStart => exact ⟨0, rfl, Nat.zero_le _, rfl, Below.refl _ _⟩
    case round =>
      obtain ⟨k, rfl, hk, HE, hb⟩ := hrel
      by_cases hlt : k < n
      · obtain ⟨b, o, rfl, hca⟩ := (hae.below hb).addr (by rw [length_entsCells, Hn.out]; omega)
        obtain ⟨b', o', rfl, hcb⟩ := (hbf.below hb).addr (by rw [length_entsCells, Hm.out]; omega)
        obtain ⟨x, hx⟩ : ∃ x, es[k]? = some x := ⟨_, List.getElem?_eq_getElem (by rw [Hn.out]; omega)⟩
        obtain ⟨y, hy⟩ : ∃ y, fs[k]? = some y := ⟨_, List.getElem?_eq_getElem (by rw [Hm.out]; omega)⟩
        obtain ⟨x0, x1, x2⟩ := ents_at hca k x hx
        obtain ⟨y0, y1, y2⟩ := ents_at hcb k y hy
        have HX := hidP hx
        have HY := hidP hy
        have i0 : (0 : Int) ≤ (k : Int) := by omega
        have i1 : (k : Int) < (n : Int) := by omega
        clear hx hy hca hcb hae hbf
        go_wp2_with fail
        go_still_tail 8, (by kernel_rfl)
        go_wp2_with fail
        · exact ⟨⟨k + 1, by go_num, by omega, take_step HE.out HX.out HY.out (by cases x; cases y; simp_all), hb.drew⟩, by simp [intOf]; omega⟩
        all_goals
          have hd := ne_step HX.out HY.out (by rintro rfl; simp_all)
          have HD := hidP hd
          clear hd
          go_ret
          exact ⟨by rw [HD.out]; rfl, hb.drew⟩
      · have hd := eq_all HE.out (by rw [Hn.out]; omega) (by rw [Hm.out]; omega)
        go_wp2
        go_ret
        exact ⟨by rw [hd]; rfl, hb⟩
  · have hd : decide (es = fs) = false := ne_len (by rw [Hn.out, Hm.out]; exact hnm)
    have HD := hidP hd
    clear hd
    have : ((n:Int) == (m:Int)) = false := by simp; omega
    go_wp2
    go_ret
    exact ⟨by rw [HD.out]; rfl, Below.refl _ _⟩


theorem equalEnt_at (ao bo : Option Addr) (n m c d : Nat) (es fs : List Ent) (b : Bool) (w : World) (hae : RowAt w ao (entsCells es)) (hbf : RowAt w bo (entsCells fs)) (hn : es.length = n) (hm : fs.length = m) (_hmax : n ≤ 140737488355328) (hb : decide (es = fs) = b) :
    Calls Try.prog 53 #[.slice ao n c, .slice bo m d] w fun e w' => e = .returned (.bool b) ∧ Below w.heap.size w w' := by
  subst hb
  exact equalEnt_any ao bo n m c d es fs w hae hbf hn hm _hmax

/-- What Bytes leaves: the bytes, and why not. -/
def RetBytes (w : World) (r : List Int × Int) (e : Ending) (w' : World) : Prop :=
  ∃ ao cap, e = .returned (.tuple #[.slice ao r.1.length cap, .int .i64 r.2]) ∧ w'.ownsRow w.heap.size 5 1 (.slice ao r.1.length cap) r.1.length (r.1.map (Value.int .u8)) ∧ Below w.heap.size w w'

theorem bs_take_succ (f : Ent → Int × Int) (es : List Ent) (k : Nat) (x : Ent) (hx : es[k]? = some x) : bs f (es.take (k + 1)) = bs f (es.take k) ++ [(f x).1, (f x).2] := by
  rw [List.take_add_one, hx, bs_append]
  rfl
theorem pair_byte (x : Ent) : (pairI x).1 % 256 = (pq1 x).1 ∧ (pairI x).2 % 256 = (pq1 x).2 := by
  unfold pairI pq1
  repeat' split
  all_goals simp [IntKind.wrap_i64]
  all_goals omega

set_option maxRecDepth 100000 in
set_option maxHeartbeats 1600000 in
theorem bytes_any (ao : Option Addr) (n c : Nat) (es : List Ent) (w : World) (hr : RowAt w ao (entsCells es)) (hn : es.length = n) (hmax : n ≤ 140737488355328) :
    Calls Try.prog 30 #[.slice ao n c] w (RetBytes w (bytesOf es)) := by
  have Hn := hidP hn
  clear hn
  go_enter Try.func30, Try.ntmps30
  by_cases h4 : 400 < n
  · have e : bytesOf es = ([], 1) := by unfold bytesOf; rw [if_neg (by rw [Hn.out]; omega)]
    rw [e]
    go_wp2
    go_ret2
    exact ⟨none, 0, rfl, World.ownsRow_nil _ _ _ _, brefl _⟩
  · go_wp2_with fail
    go_loopw [4, 14] (fun v i wr => ∃ k : Nat, ∃ vo vc, v = .slice vo (2 * k) vc ∧ i = .int .i64 k ∧ k ≤ n ∧ wr.ownsRow w.heap.size 5 1 (.slice vo (2 * k) vc) (2 * k) ((bs pq1 (es.take k)).map (Value.int .u8)) ∧ Below w.heap.size w wr) (fun _ i _ => n - (intOf i).toNat)
    case atStart => exact ⟨0, none, 0, rfl, rfl, by omega, World.ownsRow_nil _ _ _ _, brefl _⟩
    case round =>
      obtain ⟨k, vo, vc, rfl, rfl, hk, hown, hb⟩ := hrel
      have hsr := hb.size
      by_cases hlt : k < n
      · obtain ⟨b, o, rfl, hca⟩ := (hr.below hb).addr (by rw [length_entsCells, Hn.out]; omega)
        obtain ⟨x, hx⟩ : ∃ x, es[k]? = some x := ⟨_, List.getElem?_eq_getElem (by rw [Hn.out]; omega)⟩
        obtain ⟨x0, x1, x2⟩ := ents_at hca k x hx
        have HS := hidP (bs_take_succ pq1 es k x hx)
        have HP := hidP (pair_byte x)
        clear hx hca
        have hpa : ∀ w, Calls Try.prog 52 #[.agg #[.int .i64 x.kind, .int .i64 x.n, .int .i64 x.draw]] w fun e w' => e = .returned (.tuple #[.int .i64 (pairI x).1, .int .i64 (pairI x).2]) ∧ Below w.heap.size w w' := pair_any x
        have HPA := hidP hpa
        clear hpa
        have HN : Hid ((bs pq1 es).length = 2 * es.length) := length_bs _ _
        go_wp2_with (first | (go_at_call 52; refine (HPA.out _).mono ?_; rintro e w1 ⟨rfl, hb1⟩; have hbr := bstep (bnew (brefl wr) _) hb1; have hown1 := owns_below hown hbr; have hsb := hbr.size) | (at_builtin; go_loud (rw [HP.out.1, HP.out.2]; refine (wpList_app _ rfl (.tmp 23) (.tmp 28) rfl Try.slU8 w.heap.size (.slice vo (2 * k) vc) (2 * k) ((bs pq1 (es.take k)).map (Value.int .u8)) rfl (hown1.alloc _) (some ⟨w1.heap.size, 0, none⟩) 2 2 [.int .u8 (pq1 x).1, .int .u8 (pq1 x).2] rfl (2 * (k + 1)) rfl (RowAt.new w1 [.int .u8 (pq1 x).1, .int .u8 (pq1 x).2] _) rfl (by simp; exact ⟨rfl, rfl⟩) (by omega) (by unfold maxLen; omega) (by simp; omega) ?_)); intro a2 c2 w2 ho2 hg2 _))
        have ho3 : w2.ownsRow w.heap.size 5 1 (.slice a2 (2 * (k + 1)) c2) (2 * (k + 1)) ((bs pq1 (es.take (k + 1))).map (Value.int .u8)) := by
          rw [HS.out, List.map_append]; exact ho2
        have hB1 := bstep hb hbr
        have hB2 : Below w.heap.size w w2 := (hB1.alloc hB1.size _).grown hg2 (by simp; omega) (fun j hj => (hown.lt j hj).1)
        go_roundw
        case rel => exact ⟨k + 1, a2, c2, rfl, by go_num, by omega, ho3, hB2⟩
        case measure => simp [intOf]; omega
      · obtain rfl : k = n := by omega
        have htk : es.take k = es := List.take_of_length_le (by rw [Hn.out]; omega)
        rw [htk] at hown
        have HL := hidP (length_bs pq1 es)
        have rb := owns_row hown
        obtain ⟨b, hb0⟩ : ∃ b, decide (entries (bs pq1 es) = es) = b := ⟨_, rfl⟩
        have HB := hidP hb0
        have HL2 : Hid ((bs pq1 es).length = 2 * k) := by show _ = _; rw [length_bs, Hn.out]
        have hcnt : (entries (bs pq1 es)).length ≤ 400 := by rw [length_entries]; unfold entCount; omega
        obtain ⟨m, hm⟩ : ∃ m, (entries (bs pq1 es)).length = m := ⟨_, rfl⟩
        rw [hm] at hcnt
        have HM := hidP hm
        clear hb0 htk hm
        go_wp2_with (first | (go_at_call 14; refine (entries_at _ _ (2 * k) vc (bs pq1 es) m (entries (bs pq1 es)) rb HL2.out (bs_bounds _ pq1_bounds _) (by omega) HM.out rfl).mono ?_; rintro e w1 ⟨a1, c1, rfl, hown1, hb1⟩; have r1 := owns_row hown1; have hB1 := bstep hb hb1; have hr1 := hr.below hB1) | (go_at_call 53; refine (equalEnt_at _ _ m k _ _ (entries (bs pq1 es)) es b _ r1 hr1 HM.out Hn.out (by omega) HB.out).mono ?_; rintro e w2 ⟨rfl, hb2⟩))
        · have hbv : (!b) = true := by assumption
          have e : bytesOf es = ([], 1) := by
            unfold bytesOf
            rw [if_neg]
            have := HB.out
            intro h
            simp [h.2] at this
            simp [← this] at hbv
          rw [e]
          go_ret2
          exact ⟨none, 0, rfl, World.ownsRow_nil _ _ _ _, bstep hB1 hb2⟩
        · have hbv : (!b) = false := by assumption
          have e : bytesOf es = (bs pq1 es, 0) := by
            unfold bytesOf
            rw [if_pos]
            have := HB.out
            have hbt : b = true := by simpa using hbv
            rw [hbt] at this
            exact ⟨by rw [Hn.out]; omega, by simpa using this⟩
          have ho := owns_below hown (bstep hb1 hb2)
          rw [e]
          go_ret2
          refine ⟨vo, vc, ?_, ?_, bstep hB1 hb2⟩
          · rw [HL2.out]; rfl
          · rw [HL2.out]; exact ho
end Go.Proofs.Ytjjfemhpdhkolaa
