/-
  The walks over package code's reader: next, reg, number.
-/
import Derived.Test.YtoflhfiegfhkoaaDoorXNum
import Derived.Test.YtoflhfiegfhkoaaDoorKInstr
import Derived.Lib.OthersKept
import Derived.Laws.Cover4
import Derived.Deep.DeepCutAuto
namespace Go.Proofs.YtoflhfiegfhkoaaDoor
open Go.RowKit Go.Proofs.YtoflhfiegfhkoaaDoorW.PrintWords
set_option linter.unusedVariables false

/-- A reader of signs, and where it stands. -/
structure Rd (w : World) (g : Nat) (A : Option Addr) (n c : Nat) (l : List Nat) (p : Nat) : Prop where
  blk : w.heap[g]? = some (.cells #[.slice A n c, .int .i64 p] 93 (0, 0))
  len : l.length = n
  row : RowAt w A (l.map fun (x : Nat) => Value.int .i32 (x : Int))
  ne : ∀ b o, A = some ⟨b, o, none⟩ → b ≠ g
  le : n ≤ c
  cm : c ≤ maxLen
  pn : p ≤ n
  nm : n ≤ 1000000
  asc : ∀ x ∈ l, x < 128
theorem Rd.keep {w w1 : World} {g : Nat} {A : Option Addr} {n c : Nat} {l : List Nat} {p : Nat} (h : Rd w g A n c l p) (hb : Below w.heap.size w w1) : Rd w1 g A n c l p :=
  ⟨blk_below h.blk hb, h.len, h.row.below hb, h.ne, h.le, h.cm, h.pn, h.nm, h.asc⟩
theorem Rd.keepS {S : Nat → Prop} {w w1 : World} {g : Nat} {A : Option Addr} {n c : Nat} {l : List Nat} {p : Nat} (h : Rd w g A n c l p) (hk : Keep S w w1) (hg : ¬ S g) (hA : ∀ b o, A = some ⟨b, o, none⟩ → ¬ S b) : Rd w1 g A n c l p :=
  ⟨by rw [hk.block g (blk_lt h.blk) hg]; exact h.blk, h.len, row_keep h.row hk hA, h.ne, h.le, h.cm, h.pn, h.nm, h.asc⟩
/-- The reader has been moved on. -/
theorem Rd.moved {w w1 : World} {g : Nat} {A : Option Addr} {n c : Nat} {l : List Nat} {p q : Nat} (h : Rd w g A n c l p) (hk : Keep (· = g) w w1) (hq : q ≤ n) (hb : w1.heap[g]? = some (.cells #[.slice A n c, .int .i64 q] 93 (0, 0))) : Rd w1 g A n c l q :=
  ⟨hb, h.len, row_keep h.row hk h.ne, h.ne, h.le, h.cm, hq, h.nm, h.asc⟩
theorem Rd.drewN {w : World} {g : Nat} {A : Option Addr} {n c : Nat} {l : List Nat} {p : Nat} (h : Rd w g A n c l p) (k : Nat) : Rd (w.drewN k) g A n c l p := ⟨h.blk, h.len, h.row, h.ne, h.le, h.cm, h.pn, h.nm, h.asc⟩

def chr (l : List Nat) (p : Nat) : Nat := l.getD p 0
def adv (l : List Nat) (p : Nat) : Nat := if p < l.length then p + 1 else p
def moreB (l : List Nat) (p : Nat) : Bool := decide (p < l.length)
theorem adv_le {l : List Nat} {p : Nat} (h : p ≤ l.length) : adv l p ≤ l.length := by unfold adv; split <;> omega

set_option maxRecDepth 100000 in
set_option maxHeartbeats 1000000 in
theorem next_any {w : World} {g : Nat} {A : Option Addr} {n c : Nat} {l : List Nat} {p : Nat} (h : Rd w g A n c l p) :
    Calls Tryd.prog 56 #[.pointer (some ⟨g, 0, none⟩)] w fun e w' => e = .returned (.tuple #[.int .i32 (chr l p), .bool (moreB l p)]) ∧ Rd w' g A n c l (adv l p) ∧ Keep (· = g) w w' := by
  have hc0 : w.cell? ⟨g, 0, none⟩ = some (.slice A n c) := blk_cell h.blk 0
  have hc1 : w.cell? ⟨g, 1, none⟩ = some (.int .i64 p) := blk_cell h.blk 1
  have hfz := blk_frozen h.blk 1
  have hnm := h.nm
  have H := hidP h
  by_cases hp : p < n
  · obtain ⟨b, o, rfl, hca⟩ := h.row.addr (by rw [List.length_map, h.len]; omega)
    have hne := h.ne b o rfl
    have hl : l[p]? = some (chr l p) := by
      unfold chr
      rw [List.getD_eq_getElem?_getD, List.getElem?_eq_getElem (by rw [h.len]; exact hp)]
      rfl
    have hx : w.cell? ⟨b, o + p, none⟩ = some (.int .i32 (chr l p)) := hca p _ (by rw [List.getElem?_map, hl]; rfl)
    have hm : moreB l p = true := by unfold moreB; rw [h.len]; exact decide_eq_true hp
    have ha : adv l p = p + 1 := by unfold adv; rw [h.len, if_pos hp]
    have hlt := blk_lt h.blk
    rw [hm, ha]
    have t : ¬ (n : Int) ≤ (p : Int) := by omega
    obtain ⟨C, hC⟩ : ∃ C, chr l p = C := ⟨_, rfl⟩
    rw [hC] at hx ⊢
    have hy := fun (k : Nat) (u : Value) => (show ((w.drewN k).setCell ⟨g, 1, none⟩ u).cell? ⟨b, o + p, none⟩ = some (.int .i32 C) from (cell_far (show b ≠ g from hne) u).trans hx)
    clear hca hl hm ha h hC
    go_enter Tryd.func56, Tryd.ntmps56
    go_wp2
    repeat (go_quiet (fail); try go_wp2)
    go_ret2
    have hk : ∀ k1 k2 u, Keep (· = g) w (((w.drewN k1).setCell ⟨g, 1, none⟩ u).drewN k2) := fun k1 k2 u => ((Keep.refl' (· = g) w k1).setCell (p := ⟨g, 1, none⟩) rfl u).drewN k2
    refine ⟨rfl, H.out.moved ?_ (by omega) ?_, ?_⟩
    · first | exact hk _ _ _ | exact (Keep.refl' (· = g) w _).setCell (p := ⟨g, 1, none⟩) rfl _
    · have hb := fun k => blk_set (blk_drewN H.out.blk k) 1 (.int .i64 ((p : Int) + 1))
      first | exact hb _ | exact fun k2 => hb _
    · first | exact hk _ _ _ | exact (Keep.refl' (· = g) w _).setCell (p := ⟨g, 1, none⟩) rfl _
  · have hm : moreB l p = false := by unfold moreB; rw [h.len]; exact decide_eq_false hp
    have ha : adv l p = p := by unfold adv; rw [h.len, if_neg hp]
    have hch : chr l p = 0 := by
      unfold chr
      rw [List.getD_eq_getElem?_getD, List.getElem?_eq_none (by rw [h.len]; omega)]
      rfl
    rw [hm, ha, hch]
    have t : (n : Int) ≤ (p : Int) := by omega
    clear hm ha hch h
    go_enter Tryd.func56, Tryd.ntmps56
    go_wp2
    repeat (go_quiet (fail); try go_wp2)
    go_ret2
    exact ⟨rfl, H.out.drewN _, Keep.refl' _ w _⟩

set_option maxRecDepth 100000 in
set_option maxHeartbeats 400000 in
theorem rreg_any {w : World} {g : Nat} {A : Option Addr} {n c : Nat} {l : List Nat} {p : Nat} (h : Rd w g A n c l p) :
    Calls Tryd.prog 80 #[.pointer (some ⟨g, 0, none⟩)] w fun e w' => e = .returned (.tuple #[.int .i64 (regR (chr l p)).1, .bool (regR (chr l p)).2]) ∧ Rd w' g A n c l (adv l p) ∧ Keep (· = g) w w' := by
  have hn := next_any h
  have hr := fun w => reg_any (chr l p) w
  obtain ⟨C, hC⟩ : ∃ C, chr l p = C := ⟨_, rfl⟩
  obtain ⟨R, hR⟩ : ∃ R, regR (C : Int) = R := ⟨_, rfl⟩
  rw [hC] at hr hn
  rw [hR] at hr
  rw [hC, hR]
  clear h hC hR
  go_enter Tryd.func80, Tryd.ntmps80
  go_wp2_with fail
  refine hn.mono ?_
  rintro e w1 ⟨rfl, h1, k1⟩
  go_wp2_with fail
  refine (hr w1).mono ?_
  rintro e w2 ⟨rfl, hb⟩
  go_wp2
  go_ret2
  exact ⟨rfl, h1.keep hb, k1.trans (.of_below hb)⟩

/-- How many digits stand ahead, so many at most. -/
def runL : List Nat → Nat → Nat
  | _, 0 => 0
  | [], _ + 1 => 0
  | c :: l, m + 1 => if isDig c then runL l m + 1 else 0
theorem runL_le : ∀ (l : List Nat) (m : Nat), runL l m ≤ l.length ∧ runL l m ≤ m
  | _, 0 => by simp [runL]
  | [], _ + 1 => by simp [runL]
  | c :: l, m + 1 => by
    have := runL_le l m
    unfold runL
    split <;> simp <;> omega
theorem runL_step {l : List Nat} {q m : Nat} (h : q < l.length) (hd : isDig (chr l q) = true) : runL (l.drop q) (m + 1) = runL (l.drop (q + 1)) m + 1 := by
  rw [List.drop_eq_getElem_cons h]
  have : chr l q = l[q] := by unfold chr; rw [List.getD_eq_getElem?_getD, List.getElem?_eq_getElem h]; rfl
  rw [this] at hd
  simp only [runL]
  rw [if_pos hd]
theorem runL_stop {l : List Nat} {q m : Nat} (h : q < l.length) (hd : isDig (chr l q) = false) : runL (l.drop q) m = 0 := by
  rw [List.drop_eq_getElem_cons h]
  have : chr l q = l[q] := by unfold chr; rw [List.getD_eq_getElem?_getD, List.getElem?_eq_getElem h]; rfl
  rw [this] at hd
  cases m with
  | zero => rfl
  | succ m => simp only [runL]; rw [hd]; rfl
theorem runL_zero (l : List Nat) : runL l 0 = 0 := by unfold runL; rfl
theorem runL_nil (m : Nat) : runL [] m = 0 := by cases m <;> rfl

/-- A text of signs of one byte each. -/
def strA (l : List Nat) : ByteArray := ⟨(l.map UInt8.ofNat).toArray⟩
theorem strA_size (l : List Nat) : (strA l).size = l.length := by show (strA l).data.size = _; simp [strA]
theorem encode_ascii (c : Nat) (h : c < 128) : Utf8.encode (c : Int) = ⟨#[UInt8.ofNat c]⟩ := by
  unfold Utf8.encode
  have h1 : ((c : Int).toNat) = c := by omega
  simp only [h1]
  have hv : Utf8.valid (c : Int) = true := by unfold Utf8.valid; simp; omega
  simp [hv, h]
theorem runes_strA : ∀ (l : List Nat), (∀ x ∈ l, x < 128) → runesBytes (l.map fun (x : Nat) => (x : Int)) = strA l := by
  have H : ∀ (l : List Nat) (r : ByteArray), (∀ x ∈ l, x < 128) → (l.map fun (x : Nat) => (x : Int)).foldl (fun r n => r ++ Utf8.encode n) r = r ++ strA l := by
    intro l
    induction l with
    | nil => intro r _; simp [strA]; apply ByteArray.ext; simp
    | cons a l ih =>
      intro r h
      rw [List.map_cons, List.foldl_cons, ih _ (fun x hx => h x (by simp [hx])), encode_ascii a (h a (by simp))]
      apply ByteArray.ext
      simp [strA, ByteArray.data_append]
  intro l h
  unfold runesBytes
  rw [H l _ h]
  apply ByteArray.ext
  simp
theorem Tryd.conv_runes {w : World} {A : Option Addr} {zs : List Nat} {k cap : Nat} (hr : RowAt w A (zs.map fun (x : Nat) => Value.int .i32 (x : Int))) (hk : zs.length = k) (ha : ∀ x ∈ zs, x < 128) :
    (convert 91 9 (.slice A k cap)).run Tryd.prog w = .ok (.string (strA zs)) w := by
  subst hk
  cases A with
  | none =>
    have hz : zs = [] := by
      rcases hr with h | ⟨b, o, h, _⟩
      · simpa using h
      · cases h
    subst hz
    exact run_convert_runes_nil w _ _ 21 _ _ Tryd.underlying91 Tryd.underlying21 Tryd.underlying9
  | some ad =>
    have := run_convert_runes (P := Tryd.prog) w 91 9 21 ad zs.length cap (zs.map fun (x : Nat) => (x : Int)) (by simp) Tryd.underlying91 Tryd.underlying21 Tryd.underlying9 (fun j hj => by
      rw [List.length_map] at hj
      rcases hr with h | ⟨b, o, h, hc⟩
      · have : zs = [] := by simpa using h
        rw [this] at hj
        simp at hj
      · cases h
        rw [Addr.add_lit]
        refine hc j _ ?_
        rw [List.getElem?_map, List.getElem?_eq_getElem hj]
        simp [List.getD_eq_getElem?_getD, List.getElem?_eq_getElem hj])
    rw [this, List.take_of_length_le (by simp), runes_strA zs ha]

/-- Where the reader of a block stands. -/
def rdPos (w : World) (g : Nat) : Nat := match w.heap[g]? with | some (.cells cs _ _) => (match cs[1]? with | some v => (intOf v).toNat | none => 0) | _ => 0
theorem rdPos_eq {w : World} {g : Nat} {a : Value} {q : Nat} {t : TypeId} {z : Nat × Nat} (h : w.heap[g]? = some (.cells #[a, .int .i64 q] t z)) : rdPos w g = q := by
  unfold rdPos
  rw [h]
  simp [intOf]

/-- The number that stands ahead, of so many digits at most. -/
def numL (l : List Nat) (p m : Nat) : ByteArray := strA ((l.drop p).take (runL (l.drop p) m))

set_option maxRecDepth 100000 in
set_option maxHeartbeats 1600000 in
theorem rnumber_any {w : World} {g : Nat} {A : Option Addr} {n c : Nat} {l : List Nat} {p : Nat} (h : Rd w g A n c l p) (m : Nat) (M : Int) (hM : M = (m : Int)) (hm : m ≤ 4) :
    Calls Tryd.prog 81 #[.pointer (some ⟨g, 0, none⟩), .int .i64 M] w fun e w' => e = .returned (.tuple #[.int .i64 (numR (numL l p m)).1, .bool (numR (numL l p m)).2]) ∧ Rd w' g A n c l (p + runL (l.drop p) m) ∧ Keep (· = g) w w' := by
  have hc0 : w.cell? ⟨g, 0, none⟩ = some (.slice A n c) := blk_cell h.blk 0
  have hc1 : w.cell? ⟨g, 1, none⟩ = some (.int .i64 p) := blk_cell h.blk 1
  have hnm := h.nm
  have hpn := h.pn
  have hlen := h.len
  have H := hidP h
  subst hM
  clear h
  obtain ⟨N, hN⟩ : ∃ N, numL l p m = N := ⟨_, rfl⟩
  obtain ⟨R, hR⟩ : ∃ R, numR N = R := ⟨_, rfl⟩
  obtain ⟨E, hE⟩ : ∃ E, p + runL (l.drop p) m = E := ⟨_, rfl⟩
  rw [hN, hR, hE]
  have HN := hidP hN
  have HR := hidP hR
  have HE := hidP hE
  clear hN hR hE
  go_enter Tryd.func81, Tryd.ntmps81
  go_wp2_with fail
  clear hc0 hc1
  go_loopw [] (fun wr => ∃ (q k : Nat), Hid (q = p + k) ∧ k ≤ m ∧ q ≤ n ∧ Hid (k + runL (l.drop q) (m - k) = runL (l.drop p) m) ∧ Hid (Rd wr g A n c l q) ∧ Keep (· = g) w wr) (fun wr => n - rdPos wr g)
  case atStart => exact ⟨p, 0, by show p = p + 0; omega, by omega, by omega, by show 0 + _ = _; simp, H.out, Keep.refl _ _⟩
  case round =>
    obtain ⟨q, k, HQ, hkm, hqn, HK, HRd, hk⟩ := hrel
    obtain ⟨w1, e1⟩ : ∃ w1, w1 = wr := ⟨_, rfl⟩
    subst e1
    have hc0 : w1.cell? ⟨g, 0, none⟩ = some (.slice A n c) := blk_cell HRd.out.blk 0
    have hc1 : w1.cell? ⟨g, 1, none⟩ = some (.int .i64 q) := blk_cell HRd.out.blk 1
    have hfz := blk_frozen HRd.out.blk 1
    have hlt := blk_lt HRd.out.blk
    by_cases hgo : q < n ∧ k < m ∧ isDig (chr l q) = true
    · obtain ⟨hq, hk1, hd⟩ := hgo
      obtain ⟨b, o, rfl, hca⟩ := HRd.out.row.addr (by rw [List.length_map, HRd.out.len]; omega)
      have hne := HRd.out.ne b o rfl
      have hl : l[q]? = some (chr l q) := by
        unfold chr
        rw [List.getD_eq_getElem?_getD, List.getElem?_eq_getElem (by rw [HRd.out.len]; exact hq)]
        rfl
      have hx : w1.cell? ⟨b, o + q, none⟩ = some (.int .i32 (chr l q)) := hca q _ (by rw [List.getElem?_map, hl]; rfl)
      have hst := runL_step (m := m - (k + 1)) (by rw [HRd.out.len]; exact hq) hd
      rw [show m - (k + 1) + 1 = m - k by omega] at hst
      have HK2 : Hid (k + 1 + runL (l.drop (q + 1)) (m - (k + 1)) = runL (l.drop p) m) := by
        have := HK.out
        rw [hst] at this
        show _ = _
        omega
      have HQ2 : Hid (q + 1 = p + (k + 1)) := by have := HQ.out; show _ = _; omega
      simp [isDig] at hd
      obtain ⟨d1, d2⟩ := hd
      obtain ⟨C, hC⟩ : ∃ C, chr l q = C := ⟨_, rfl⟩
      rw [hC] at hx d1 d2
      have t1 : (q : Int) < (n : Int) := by omega
      have t2 : (q : Int) < (p : Int) + (m : Int) := by have := HQ.out; omega
      have t3 : (48 : Int) ≤ (C : Int) := by omega
      have t4 : (C : Int) ≤ 57 := by omega
      clear hca hl hst hC
      go_wp2
      repeat (go_quiet (fail); try go_wp2)
      have hk2 : ∀ k1 u, Keep (· = g) w1 ((w1.drewN k1).setCell ⟨g, 1, none⟩ u) := fun k1 u => (Keep.refl' (· = g) w1 k1).setCell (p := ⟨g, 1, none⟩) rfl u
      have hb2 := fun k1 => blk_set (blk_drewN HRd.out.blk k1) 1 (.int .i64 ((q : Int) + 1))
      go_roundw
      case rel => exact ⟨q + 1, k + 1, HQ2, by omega, by omega, HK2, HRd.out.moved (hk2 _ _) (by omega) (hb2 _), hk.trans (hk2 _ _)⟩
      case measure => rw [rdPos_eq (q := q + 1) (hb2 _), rdPos_eq HRd.out.blk]; omega
    · have hrun : k = runL (l.drop p) m := by
        have := HK.out
        have h0 : runL (l.drop q) (m - k) = 0 := by
          by_cases hq : q < n
          · by_cases hk1 : k < m
            · have hd : isDig (chr l q) = false := by
                cases hb : isDig (chr l q)
                · rfl
                · exact absurd ⟨hq, hk1, hb⟩ hgo
              exact runL_stop (by rw [HRd.out.len]; exact hq) hd
            · rw [show m - k = 0 by omega]; exact runL_zero _
          · rw [List.drop_eq_nil_of_le (by rw [HRd.out.len]; omega)]; exact runL_nil _
        omega
      have hq2 := HQ.out
      have hrow : RowAt w1 (cutA A p c 1) (((l.drop p).take k).map fun (x : Nat) => Value.int .i32 (x : Int)) := by
        have h1 := HRd.out.row.cut p c 1 (fun e => by rw [List.length_map, HRd.out.len]; have := HRd.out.le; omega)
        have h2 := h1.take k
        rw [Nat.mul_one, ← List.map_drop, ← List.map_take] at h2
        exact h2
      have hzl : ((l.drop p).take k).length = q - p := by rw [List.length_take, List.length_drop, HRd.out.len]; omega
      have hza : ∀ x ∈ (l.drop p).take k, x < 128 := fun x hx => HRd.out.asc x (List.mem_of_mem_drop (List.mem_of_mem_take hx))
      have hcv1 := fun k1 => Tryd.conv_runes (w := w1.drewN k1) (cap := c - p) (show RowAt (w1.drewN k1) _ _ from hrow) hzl hza
      have hcv2 := fun k1 => Tryd.conv_runes (w := (w1.drewN k1).drew) (cap := c - p) (show RowAt (w1.drewN k1).drew _ _ from hrow) hzl hza
      have hnl : strA ((l.drop p).take k) = numL l p m := by unfold numL; rw [← hrun]
      rw [HN.out] at hnl
      rw [hnl] at hcv1 hcv2
      have hns : N.size ≤ 4 := by rw [← hnl, strA_size, hzl]; omega
      have hnum := fun w => number_any N w (by omega)
      rw [HR.out] at hnum
      obtain rfl : q = E := by have := HE.out; omega
      have tc1 : (p : Int) ≤ (q : Int) := by omega
      have tc2 : (q : Int) ≤ (c : Int) := by have := HRd.out.le; omega
      have tc3 : q ≤ c := by omega
      have HNUM := hidP hnum
      have HRUN := hidP hrun
      clear hnum hrow hzl hza hnl hrun hns
      have fin : ∀ k1, Rd (w1.drewN k1) g A n c l q ∧ Keep (· = g) w (w1.drewN k1) := fun k1 => ⟨HRd.out.drewN k1, hk.drewN k1⟩
      have hcases : ¬ q < n ∨ (q < n ∧ ¬ k < m) ∨ (q < n ∧ k < m ∧ ¬ 48 ≤ chr l q) ∨ (q < n ∧ k < m ∧ 48 ≤ chr l q ∧ ¬ chr l q ≤ 57) := by
        by_cases h1 : q < n
        · by_cases h2 : k < m
          · by_cases h3 : 48 ≤ chr l q
            · by_cases h4 : chr l q ≤ 57
              · exact absurd ⟨h1, h2, by simp [isDig]; exact ⟨h3, h4⟩⟩ hgo
              · exact .inr (.inr (.inr ⟨h1, h2, h3, h4⟩))
            · exact .inr (.inr (.inl ⟨h1, h2, h3⟩))
          · exact .inr (.inl ⟨h1, h2⟩)
        · exact .inl h1
      clear hgo
      go_upto_region 2 with fail
      go_cut [56] from 11 to 63 (fun v56 wx => v56 = .bool false ∧ ∃ k1, wx = w1.drewN k1)
      case first =>
        by_cases hq : q < n
        · obtain ⟨b, o, rfl, hca⟩ := HRd.out.row.addr (by rw [List.length_map, HRd.out.len]; omega)
          have hl : l[q]? = some (chr l q) := by
            unfold chr
            rw [List.getD_eq_getElem?_getD, List.getElem?_eq_getElem (by rw [HRd.out.len]; exact hq)]
            rfl
          have hx : w1.cell? ⟨b, o + q, none⟩ = some (.int .i32 (chr l q)) := hca q _ (by rw [List.getElem?_map, hl]; rfl)
          have t1 : (q : Int) < (n : Int) := by omega
          obtain ⟨C, hC⟩ : ∃ C, chr l q = C := ⟨_, rfl⟩
          rw [hC] at hx hcases
          clear hca hl hC
          rcases hcases with h0 | ⟨_, h2⟩ | ⟨_, h2, h3⟩ | ⟨_, h2, h3, h4⟩
          · exact absurd hq h0
          · have t2 : decide ((q : Int) < (p : Int) + (m : Int)) = false := decide_eq_false (by omega)
            clear hq2
            repeat (go_quiet (fail); try go_wp2)
            go_meet
            exact ⟨rfl, _, rfl⟩
          · have t2 : (q : Int) < (p : Int) + (m : Int) := by omega
            have t3 : decide ((48 : Int) ≤ (C : Int)) = false := decide_eq_false (by omega)
            clear hq2
            repeat (go_quiet (fail); try go_wp2)
            go_meet
            exact ⟨rfl, _, rfl⟩
          · have t2 : (q : Int) < (p : Int) + (m : Int) := by omega
            have t3 : (48 : Int) ≤ (C : Int) := by omega
            have t4 : decide ((C : Int) ≤ 57) = false := decide_eq_false (by omega)
            clear hq2
            repeat (go_quiet (fail); try go_wp2)
            go_meet
            exact ⟨rfl, _, rfl⟩
        · have t1 : decide ((q : Int) < (n : Int)) = false := decide_eq_false (by omega)
          clear hq2
          repeat (go_quiet (fail); try go_wp2)
          go_meet
          exact ⟨rfl, _, rfl⟩
      case rest =>
        obtain ⟨rfl, nq, rfl⟩ := hcut
        have hf := fin nq
        have g0 : (w1.drewN nq).cell? ⟨g, 0, none⟩ = _ := hc0
        have g1 : (w1.drewN nq).cell? ⟨g, 1, none⟩ = _ := hc1
        have gcv := hcv1 nq
        have gcw := hcv2 nq
        generalize w1.drewN nq = w3 at *
        clear hc0 hc1 hcv1 hcv2 hcases hq2
        go_wp2_with fail
        go_region_with (go_at_call 97; refine (HNUM.out _).mono ?_; rintro e w2 ⟨rfl, hb⟩)
        all_goals
          go_wp2
          go_ret2
          refine ⟨rfl, ?_, ?_⟩
          · exact Rd.keep hf.1 ((brefl w3).drew.trans hb)
          · exact hf.2.trans (.of_below ((brefl w3).drew.trans hb))
end Go.Proofs.YtoflhfiegfhkoaaDoor
