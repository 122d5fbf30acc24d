/-
  The walk of the law ClockPlays.
-/
import Derived.Test.YtjjfemhpdhkolaaCRefD
import Derived.Test.YtjjfemhpdhkolaaCLaw
namespace Go.Proofs.Ytjjfemhpdhkolaa
open Go.RowKit
set_option linter.unusedVariables false

theorem ckAdd (w : World) (q r : Nat) (P : Nat → Prop) (l m : List CE) (t a : Int) (h : CK w q r P l m) (hl : l.length ≤ 900000) :
    Calls Try.prog 40 #[.pointer (some ⟨q, 0, none⟩), .int .i64 t, .int .i64 a] w (OPost (fun w P => CK w q r P (cAdd l t a) m) w P fun _ v => v = .tuple #[]) := by
  obtain ⟨Q, R, h1, h2, h3, h4⟩ := h
  exact (cadd_any q Q l t a w h1 hl).mono fun e w' h => ck_q (l := []) h2 h3 h4 h
theorem ckAddR (w : World) (q r : Nat) (P : Nat → Prop) (l m : List CE) (t a : Int) (h : CK w q r P l m) (hl : m.length ≤ 900000) (hb : Byw m) :
    Calls Try.prog 41 #[.pointer (some ⟨r, 0, none⟩), .int .i64 t, .int .i64 a] w (OPost (fun w P => CK w q r P l (cAdd m t a)) w P fun _ v => v = .tuple #[]) := by
  obtain ⟨Q, R, h1, h2, h3, h4⟩ := h
  exact (kadd_any r R m t a w h2 hl hb).mono fun e w' h => ck_r (m := []) h1 h3 h4 h
theorem ckDue (w : World) (q r : Nat) (P : Nat → Prop) (l m : List CE) (t : Int) (h : CK w q r P l m) (hl : l.length ≤ 900000) :
    Calls Try.prog 38 #[.pointer (some ⟨q, 0, none⟩), .int .i64 t] w (OPost (fun w P => CK w q r P (l.drop (cutN l t)) m) w P (RowAns w (cDue l t))) := by
  obtain ⟨Q, R, h1, h2, h3, h4⟩ := h
  exact (cdue_any q Q l t w h1 hl).mono fun e w' h => ck_q (l := []) h2 h3 h4 h
theorem ckDueR (w : World) (q r : Nat) (P : Nat → Prop) (l m : List CE) (t : Int) (h : CK w q r P l m) (hl : m.length ≤ 900000) :
    Calls Try.prog 39 #[.pointer (some ⟨r, 0, none⟩), .int .i64 t] w (OPost (fun w P => CK w q r P l (m.drop (cutN m t))) w P (RowAns w (cDue m t))) := by
  obtain ⟨Q, R, h1, h2, h3, h4⟩ := h
  exact (kdue_any r R m t w h2 hl).mono fun e w' h => ck_r (m := []) h1 h3 h4 h
/-- The same, while a row stands that the reference's clock does not reach. -/
def CKM (w : World) (q r : Nat) (P : Nat → Prop) (l m : List CE) (ao : Option Addr) (xs : List Value) : Prop :=
  ∃ Q R, CIn w q Q l ∧ KIn w r R m ∧ (∀ k, Q k → ¬ R k) ∧ (∀ k, P k ↔ (Q k ∨ R k)) ∧ RowAt w ao xs ∧ ∀ b o, ao = some ⟨b, o, none⟩ → ¬ R b
theorem CKM.ck {w : World} {q r : Nat} {P : Nat → Prop} {l m : List CE} {ao : Option Addr} {xs : List Value} (h : CKM w q r P l m ao xs) : CK w q r P l m := by
  obtain ⟨Q, R, h1, h2, h3, h4, _⟩ := h
  exact ⟨Q, R, h1, h2, h3, h4⟩
theorem ckDue' (w : World) (q r : Nat) (P : Nat → Prop) (l m : List CE) (t : Int) (h : CK w q r P l m) (hl : l.length ≤ 900000) :
    Calls Try.prog 38 #[.pointer (some ⟨q, 0, none⟩), .int .i64 t] w fun e w' => ∃ a4 c4 P', e = .returned (.slice a4 (cDue l t).length c4) ∧ CKM w' q r P' (l.drop (cutN l t)) m a4 ((cDue l t).map (Value.int .i64)) ∧ Keep P w w' ∧ ∀ k, P' k → P k ∨ w.heap.size ≤ k := by
  obtain ⟨Q, R, h1, h2, h3, h4⟩ := h
  refine (cdue_any q Q l t w h1 hl).mono fun e w' h => ?_
  obtain ⟨v, he, ⟨ao, c, rfl, ho⟩, Q', h5, hk, hn⟩ := h
  have hRlt : ∀ k, R k → k < w.heap.size := by
    obtain ⟨_, _, _, _, _, _, _, _, hlt, _⟩ := h2
    exact hlt
  refine ⟨ao, c, fun k => Q' k ∨ R k, he, ⟨Q', R, h5, h2.keep hk (fun k hr hq => h3 k hq hr), fun k hq hr => ?_, fun k => Iff.rfl, owns_row ho, ?_⟩, hk.mono (fun k _ hq => (h4 k).2 (.inl hq)), fun k hp => ?_⟩
  · rcases hn k hq with h | h
    · exact h3 k h hr
    · have := hRlt k hr
      omega
  · rintro b o rfl hr
    have := (ho.lt b rfl).1
    have := hRlt b hr
    omega
  · rcases hp with h | h
    · rcases hn k h with h | h
      · exact .inl ((h4 k).2 (.inl h))
      · exact .inr h
    · exact .inl ((h4 k).2 (.inr h))
theorem ckDueR' (w : World) (q r : Nat) (P : Nat → Prop) (l m : List CE) (t : Int) (ao : Option Addr) (xs : List Value) (h : CKM w q r P l m ao xs) (hl : m.length ≤ 900000) :
    Calls Try.prog 39 #[.pointer (some ⟨r, 0, none⟩), .int .i64 t] w fun e w' => ∃ a5 c5 P', e = .returned (.slice a5 (cDue m t).length c5) ∧ RowAt w' a5 ((cDue m t).map (Value.int .i64)) ∧ RowAt w' ao xs ∧ CK w' q r P' l (m.drop (cutN m t)) ∧ Keep P w w' ∧ ∀ k, P' k → P k ∨ w.heap.size ≤ k := by
  obtain ⟨Q, R, h1, h2, h3, h4, h5, h6⟩ := h
  refine (kdue_any r R m t w h2 hl).mono fun e w' h => ?_
  obtain ⟨v, he, ⟨a5, c5, rfl, ho⟩, R', h7, hk, hn⟩ := h
  refine ⟨a5, c5, fun k => Q k ∨ R' k, he, owns_row ho, row_keep h5 hk h6, ⟨Q, R', h1.keep hk (fun k hq hr => h3 k hq hr), h7, fun k hq hr => ?_, fun k => Iff.rfl⟩, hk.mono (fun k _ hq => (h4 k).2 (.inr hq)), fun k hp => ?_⟩
  · rcases hn k hr with h | h
    · exact h3 k hq h
    · obtain ⟨_, _, _, hlt⟩ := h1
      have := hlt k hq
      omega
  · rcases hp with h | h
    · exact .inl ((h4 k).2 (.inl h))
    · rcases hn k h with h | h
      · exact .inl ((h4 k).2 (.inr h))
      · exact .inr h
theorem ckAll (w : World) (q r : Nat) (P : Nat → Prop) (l m : List CE) (h : CK w q r P l m) (hl : l.length ≤ 900000) :
    Calls Try.prog 42 #[.pointer (some ⟨q, 0, none⟩)] w (RetRow w 3 1 l.length ((l.map (·.2)).map (Value.int .i64))) := by
  obtain ⟨Q, R, ⟨g, h1, _⟩, _⟩ := h
  exact call_any q g l w h1 (by omega)
theorem ckLen (w : World) (q r : Nat) (P : Nat → Prop) (l m : List CE) (h : CK w q r P l m) (hl : l.length ≤ 900000) :
    Calls Try.prog 43 #[.pointer (some ⟨q, 0, none⟩)] w fun e w' => e = .returned (.int .i64 l.length) ∧ Below w.heap.size w w' := by
  obtain ⟨Q, R, ⟨g, h1, _⟩, _⟩ := h
  exact clen_any q g l w h1 (by omega)
theorem CK.row {w : World} {q r : Nat} {P : Nat → Prop} {l m : List CE} (h : CK w q r P l m) : ∃ bo d, w.cell? ⟨r, 1, none⟩ = some (.slice bo m.length d) ∧ RowAt w bo ((m.map (·.2)).map (Value.int .i64)) ∧ r < w.heap.size := by
  obtain ⟨Q, R, _, ⟨ao, c, bo, d, h1, _, h3, _⟩, _⟩ := h
  exact ⟨bo, d, by have := block_cell h1 1; simpa using this, owns_row h3, block_lt h1⟩
theorem ck_new (w : World) : ∃ P, CK ((w.alloc (.cells #[.slice none 0 0] 85)).alloc (.cells #[.slice none 0 0, .slice none 0 0] 63)) w.heap.size (w.heap.size + 1) P [] [] ∧ ∀ k, P k → w.heap.size ≤ k := by
  have h0 : CIn (w.alloc (.cells #[.slice none 0 0] 85)) w.heap.size (fun k => k = w.heap.size) [] :=
    ⟨none, cnew_at w, by rintro k (h | h) <;> simp_all, by rintro k rfl; simp⟩
  refine ⟨fun k => k = w.heap.size ∨ k = w.heap.size + 1, ⟨fun k => k = w.heap.size, fun k => k = w.heap.size + 1, h0.below (bnew (brefl _) _), ⟨none, 0, none, 0, ?_, World.ownsRow_nil _ _ _ _, World.ownsRow_nil _ _ _ _, ?_, ?_, by simp [Value.ownBlock], by simp [Value.ownBlock]⟩, fun k h1 h2 => by omega, fun k => Iff.rfl⟩, ?_⟩
  · have h := heap_alloc_new (w.alloc (.cells #[.slice none 0 0] 85)) (.cells #[.slice none 0 0, .slice none 0 0] 63)
    simpa using h
  · rintro k (h | h | h)
    · exact h
    · simp [Value.ownBlock] at h
    · simp [Value.ownBlock] at h
  · rintro k rfl
    simp
  · rintro k (rfl | rfl) <;> omega

theorem cAdd_len {l : List CE} {t a : Int} {k : Nat} (h : l.length ≤ k) : (cAdd l t a).length ≤ k + 1 := by rw [length_cAdd]; omega
theorem drop_len {l : List CE} {j k : Nat} (h : l.length ≤ k) : (l.drop j).length ≤ k + 1 := by rw [List.length_drop]; omega

set_option maxRecDepth 100000 in
set_option maxHeartbeats 1600000 in
theorem clockPlays_any (ao : Option Addr) (n c : Nat) (F : Nat → Nat → Int) (w : World) (hr : RowAt w ao (tabCells F n 3)) (hnc : n ≤ c) (hc : c ≤ 9223372036854775807) :
    Calls Try.prog 11 #[.slice ao n c] w fun e w' => e = .returned (.bool true) ∧ Below w.heap.size w w' := by
  go_enter Try.func11, Try.ntmps11
  go_wp2_with fail
  refine (cnew_any _).mono ?_
  rintro e w1 ⟨rfl, rfl⟩
  obtain ⟨P0, h1, hP0⟩ := ck_new w
  have hb1 := bnew (bnew (brefl w) (.cells #[.slice none 0 0] 85)) (.cells #[.slice none 0 0, .slice none 0 0] 63)
  go_wp2_with (go_at_call 37; refine (awake19_any _).mono ?_; rintro e w2 ⟨rfl, hb2⟩)
  have h2 := h1.below hb2
  have hB2 := bstep hb1 hb2
  clear h1 hb1 hb2
  go_loopw [5] (fun v wr => ∃ (k : Nat) (l : List CE) (P : Nat → Prop), v = .int .i64 k ∧ k ≤ n ∧ k ≤ 80 ∧ l.length ≤ k ∧ Hid (Byw l) ∧ CK wr w.heap.size (w.heap.size + 1) P l l ∧ Hid (∀ j, P j → w.heap.size ≤ j) ∧ Below w.heap.size w wr) (fun v _ => n - (intOf v).toNat)
  case atStart => exact ⟨0, [], P0, rfl, by omega, by omega, by simp, List.Pairwise.nil, h2, hP0, hB2⟩
  case round =>
    obtain ⟨k, l, P, rfl, hkn, hk80, hlk, HY, h3, HO, hb3⟩ := hrel
    clear h2 hB2 hP0
    by_cases hlt : k < n ∧ k < 80
    · obtain ⟨hlt, hlt1⟩ := hlt
      obtain ⟨b, o, rfl, hca⟩ := (hr.below hb3).addr (by rw [length_tab]; omega)
      obtain ⟨kd, hkd⟩ : ∃ x, F k 0 = x := ⟨_, rfl⟩
      obtain ⟨t, ht⟩ : ∃ x, F k 1 = x := ⟨_, rfl⟩
      obtain ⟨a, ha⟩ : ∃ x, F k 2 = x := ⟨_, rfl⟩
      have ck : wr.cell? ⟨b, o + k * 3, none⟩ = some (.int .i64 kd) := by rw [← hkd]; exact hca _ _ (tab_at F n 3 k 0 hlt (by omega))
      have ct : wr.cell? ⟨b, o + k * 3 + 1, none⟩ = some (.int .i64 t) := by rw [← ht]; have := hca _ _ (tab_at F n 3 k 1 hlt (by omega)); rwa [← Nat.add_assoc] at this
      have ca : wr.cell? ⟨b, o + k * 3 + 2, none⟩ = some (.int .i64 a) := by rw [← ha]; have := hca _ _ (tab_at F n 3 k 2 hlt (by omega)); rwa [← Nat.add_assoc] at this
      clear hkd ht ha hca
      have hnb : ¬ P wr.heap.size := fun h => absurd (h3.lt _ h) (by omega)
      have hall := bnew (brefl wr) (.cells #[.int .i64 kd, .int .i64 t, .int .i64 a] 65)
      have hsr := hb3.size
      have hT := h3.below hall
      by_cases hk1 : kd = 1
      · subst hk1
        have hbx : wr.heap.size < (wr.alloc (.cells #[.int .i64 1, .int .i64 t, .int .i64 a] 65)).drew.heap.size := by simp
        have hTd := h3.below hall.drew
        have hdl : (cDue l t).length ≤ 140737488355328 := by unfold cDue; rw [List.length_map, List.length_take]; omega
        go_wp2_with fail
        go_region_held3 (fun w' => w'.cell? ⟨wr.heap.size, 1, none⟩ = some (.int .i64 t))
          (first | go_keep | exact (keep_cell hk5 hbx4 hnb4).trans (by assumption) | exact (keep_cell hk4 hbx hnb).trans (by assumption) | exact (hb6.cell (p := ⟨wr.heap.size, 1, none⟩) hbx5).trans (by assumption) | fail)
          (first
            | (go_at_call 38; refine (ckDue' _ _ _ P l l t hTd (by omega)).mono ?_; rintro e w4 ⟨a4, c4, P4, rfl, h4, hk4, ho4⟩; have hbx4 : wr.heap.size < w4.heap.size := Nat.lt_of_lt_of_le hbx hk4.size; have hnb4 : ¬ P4 wr.heap.size := fun h => (ho4 _ h).elim hnb (fun h => absurd hbx (by omega)))
            | (go_at_call 39; refine (ckDueR' _ _ _ P4 _ l t a4 _ h4 (by omega)).mono ?_; rintro e w5 ⟨a5, c5, P5, rfl, r5, r4, h5, hk5, ho5⟩; have hbx5 : wr.heap.size < w5.heap.size := Nat.lt_of_lt_of_le hbx4 hk5.size)
            | (go_at_call 26; refine (plainInt_yes a4 a5 (cDue l t).length (cDue l t).length c4 c5 (cDue l t) (cDue l t) _ r4 r5 rfl rfl hdl rfl).mono ?_; rintro e w6 ⟨rfl, hb6⟩)
            | fail)
        have HO4 : ∀ j, P4 j → w.heap.size ≤ j := by
          intro j hj
          rcases ho4 j hj with h | h
          · exact HO.out j h
          · simp at h; omega
        have hs4 := hk4.size
        simp at hs4
        have HO5 : Hid (∀ j, P5 j → w.heap.size ≤ j) := by
          intro j hj
          rcases ho5 j hj with h | h
          · exact HO4 j h
          · omega
        have hB5 : Below w.heap.size w w5 := ((hb3.alloc hb3.size _).drew.trans (hk4.below (by simp; omega) HO.out)).trans (hk5.below (by omega) HO4)
        clear h4 hk4 ho4 hk5 ho5 HO4
        have h6 := h5.below hb6
        have hB6 : Below w.heap.size w w6 := bstep hB5 hb6
        have HY5 : Hid (Byw (l.drop (cutN l t))) := byw_drop HY.out _
        have hl5 : (l.drop (cutN l t)).length ≤ k + 1 := drop_len hlk
        obtain ⟨w5', hw5⟩ : ∃ x, x = w6 := ⟨_, rfl⟩
        rw [← hw5] at h6 hB6 ⊢
        clear hw5 hb6 r4 r5 h5 hB5
        obtain ⟨ra, rc, cr, rr, rl⟩ := (h6).row
        have h5d := (h6).below (brefl w5').drew
        have rrd : RowAt (w5').drew ra (((l.drop (cutN l t)).map (·.2)).map (Value.int .i64)) := rr
        generalize hl' : (l.drop (cutN l t)) = l' at *
        have hl6 : l'.length ≤ 900000 := by omega
        clear hl' ck ca ct
        go_wp2_with fail
        go_region_held3 (fun w' => w'.cell? ⟨w.heap.size + 1, 1, none⟩ = some (.slice ra l'.length rc))
          (first | go_keep | exact (hb8.cell (p := ⟨w.heap.size + 1, 1, none⟩) rl7).trans (by assumption) | exact (hb7.cell (p := ⟨w.heap.size + 1, 1, none⟩) rl6).trans (by assumption) | exact (hb6.cell (p := ⟨w.heap.size + 1, 1, none⟩) rl).trans (by assumption) | fail)
          (first
            | (go_at_call 42; refine (ckAll _ _ _ P5 l' l' h5d hl6).mono ?_; rintro e w6 ⟨a6, c6, rfl, hown6, hb6⟩; have h6 := h5d.below hb6; have rr6 := rrd.below hb6; have ro6 := owns_row hown6; have rl6 : w.heap.size + 1 < w6.heap.size := Nat.lt_of_lt_of_le rl hb6.size)
            | (go_at_call 26; refine (plainInt_yes a6 ra l'.length l'.length c6 rc (l'.map (·.2)) (l'.map (·.2)) _ ro6 rr6 (by simp) (by simp) (by omega) rfl).mono ?_; rintro e w7 ⟨rfl, hb7⟩; have h7 := h6.below hb7; have rl7 : w.heap.size + 1 < w7.heap.size := Nat.lt_of_lt_of_le rl6 hb7.size)
            | (go_at_call 43; refine (ckLen _ _ _ P5 l' l' h7 hl6).mono ?_; rintro e w8 ⟨rfl, hb8⟩)
            | fail)
        have h8 := h7.below hb8
        have hB8 := (bstep (bstep ((hB6).drew.trans (hb6.mono (hB6).size)) hb7) hb8)
        clear hb6 hb7 hb8 h5d h6 h7 rr rrd rr6 ro6 hown6 cr hr h3
        go_wp2
        go_roundw
        case rel => exact ⟨k + 1, l', P5, by go_num, by omega, by omega, hl5, HY5, h8, HO5, hB8⟩
        case measure => simp [intOf]; omega
      · have t1 : (kd == 1) = false := by simp [hk1]
        have hbx : wr.heap.size < (wr.alloc (.cells #[.int .i64 kd, .int .i64 t, .int .i64 a] 65)).heap.size := by simp
        have ct2 : (wr.alloc (.cells #[.int .i64 kd, .int .i64 t, .int .i64 a] 65)).cell? ⟨wr.heap.size, 1, none⟩ = some (.int .i64 t) := by go_simp
        have ca2 : (wr.alloc (.cells #[.int .i64 kd, .int .i64 t, .int .i64 a] 65)).cell? ⟨wr.heap.size, 2, none⟩ = some (.int .i64 a) := by go_simp
        go_wp2_with fail
        refine (ckAdd _ _ _ P l l t a hT (by omega)).mono ?_
        rintro e w4 ⟨_, rfl, rfl, P4, h4, hk4, ho4⟩
        have ct4 := (keep_cell hk4 hbx hnb).trans ct2
        have ca4 := (keep_cell hk4 hbx hnb).trans ca2
        go_wp2_with fail
        refine (ckAddR _ _ _ P4 (cAdd l t a) l t a h4 (by omega) HY.out).mono ?_
        rintro e w5 ⟨_, rfl, rfl, P5, h5, hk5, ho5⟩
        have HO4 : ∀ j, P4 j → w.heap.size ≤ j := by
          intro j hj
          rcases ho4 j hj with h | h
          · exact HO.out j h
          · simp at h; omega
        have hs4 := hk4.size
        simp at hs4
        have HO5 : Hid (∀ j, P5 j → w.heap.size ≤ j) := by
          intro j hj
          rcases ho5 j hj with h | h
          · exact HO4 j h
          · omega
        have hB5 : Below w.heap.size w w5 := ((hb3.alloc hb3.size _).trans (hk4.below (by simp; omega) HO.out)).trans (hk5.below (by omega) HO4)
        clear h4 hk4 ho4 hk5 ho5 HO4
        have HY5 : Hid (Byw (cAdd l t a)) := byw_add HY.out t a
        have hl5 : (cAdd l t a).length ≤ k + 1 := cAdd_len hlk
        obtain ⟨ra, rc, cr, rr, rl⟩ := (h5).row
        have h5d := (h5).below (brefl w5).drew
        have rrd : RowAt (w5).drew ra (((cAdd l t a).map (·.2)).map (Value.int .i64)) := rr
        generalize hl' : (cAdd l t a) = l' at *
        have hl6 : l'.length ≤ 900000 := by omega
        clear hl' ck ca ct
        go_wp2_with fail
        go_region_held3 (fun w' => w'.cell? ⟨w.heap.size + 1, 1, none⟩ = some (.slice ra l'.length rc))
          (first | go_keep | exact (hb8.cell (p := ⟨w.heap.size + 1, 1, none⟩) rl7).trans (by assumption) | exact (hb7.cell (p := ⟨w.heap.size + 1, 1, none⟩) rl6).trans (by assumption) | exact (hb6.cell (p := ⟨w.heap.size + 1, 1, none⟩) rl).trans (by assumption) | fail)
          (first
            | (go_at_call 42; refine (ckAll _ _ _ P5 l' l' h5d hl6).mono ?_; rintro e w6 ⟨a6, c6, rfl, hown6, hb6⟩; have h6 := h5d.below hb6; have rr6 := rrd.below hb6; have ro6 := owns_row hown6; have rl6 : w.heap.size + 1 < w6.heap.size := Nat.lt_of_lt_of_le rl hb6.size)
            | (go_at_call 26; refine (plainInt_yes a6 ra l'.length l'.length c6 rc (l'.map (·.2)) (l'.map (·.2)) _ ro6 rr6 (by simp) (by simp) (by omega) rfl).mono ?_; rintro e w7 ⟨rfl, hb7⟩; have h7 := h6.below hb7; have rl7 : w.heap.size + 1 < w7.heap.size := Nat.lt_of_lt_of_le rl6 hb7.size)
            | (go_at_call 43; refine (ckLen _ _ _ P5 l' l' h7 hl6).mono ?_; rintro e w8 ⟨rfl, hb8⟩)
            | fail)
        have h8 := h7.below hb8
        have hB8 := (bstep (bstep ((hB5).drew.trans (hb6.mono (hB5).size)) hb7) hb8)
        clear hb6 hb7 hb8 h5d h6 h7 rr rrd rr6 ro6 hown6 cr hr h3
        go_wp2
        go_roundw
        case rel => exact ⟨k + 1, l', P5, by go_num, by omega, by omega, hl5, HY5, h8, HO5, hB8⟩
        case measure => simp [intOf]; omega
    · have hd : (k : Int) < n → ¬ (k : Int) < 80 := by omega
      go_wp2
      all_goals
        go_ret
        exact ⟨rfl, hb3⟩
theorem opened_t65 {H : Type} {enc : TypeId × Value → H} {w : World} {base : Nat} {spare : Nat → Bool} {held : Bool} {a : Option Addr} {n cap : Nat} {d : DataW H} {p : List MemPlace}
    (h : DataW.Trod enc Try.prog w base spare held 58 (.slice a n cap) d p) :
    ∃ F : Nat → Nat → Int, RowAt w a (tabCells F n 3) ∧ (∀ i j, i < n → j < 3 → (Lit.int .i64 (F i j)).wf = true) ∧ n ≤ cap ∧ cap ≤ maxLen :=
  opened_recs Try.underlying58 Try.underlying65 (by kernel_rfl) (by kernel_rfl) (by decide) (by
    intro j f hj
    match j with
    | 0 => simp at hj; subst hj; exact Try.underlying3
    | 1 => simp at hj; subst hj; exact Try.underlying3
    | 2 => simp at hj; subst hj; exact Try.underlying3
    | j + 3 => simp at hj) h

theorem clockPlaysW (w : World) (ao : Option Addr) (n c : Nat) (F : Nat → Nat → Int) (hr : RowAt w ao (tabCells F n 3)) (hF : ∀ i j, i < n → j < 3 → (Lit.int .i64 (F i j)).wf = true) (hb : n ≤ c ∧ c ≤ maxLen) :
    Calls Try.prog 11 #[.slice ao n c] w fun e w' => e = .returned (.bool true) ∧ Below w.heap.size w w' :=
  clockPlays_any ao n c F w hr hb.1 (by have := hb.2; unfold maxLen at this; omega)
end Go.Proofs.Ytjjfemhpdhkolaa
