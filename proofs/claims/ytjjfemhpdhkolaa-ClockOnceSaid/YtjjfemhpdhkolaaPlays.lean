/-
  The walk of the law QueuePlays.
-/
import Derived.Test.YtjjfemhpdhkolaaTwo
namespace Go.Proofs.Ytjjfemhpdhkolaa
open Go.RowKit
set_option linter.unusedVariables false

theorem plainInt_yes (ao bo : Option Addr) (n m c d : Nat) (es fs : List Int) (w : World) (hae : RowAt w ao (es.map (Value.int .i64))) (hbf : RowAt w bo (fs.map (Value.int .i64))) (hn : es.length = n) (hm : fs.length = m) (hmax : n ≤ 140737488355328) (he : es = fs) :
    Calls Try.prog 26 #[.slice ao n c, .slice bo m d] w fun e w' => e = .returned (.bool true) ∧ Below w.heap.size w w' := by
  have h : decide (es = fs) = true := by simp [he]
  rw [← h]
  exact plainInt_any ao bo n m c d es fs w hae hbf hn hm hmax

theorem tab_at (F : Nat → Nat → Int) (n k i j : Nat) (hi : i < n) (hj : j < k) : (tabCells F n k)[i * k + j]? = some (.int .i64 (F i j)) := by
  induction n with
  | zero => omega
  | succ n ih =>
    have e : tabCells F (n + 1) k = tabCells F n k ++ (List.range k).map fun j => Value.int .i64 (F n j) := by simp [tabCells, List.range_succ]
    have hl := length_tab F n k
    rw [e]
    by_cases h : i < n
    · rw [List.getElem?_append_left (by rw [hl]; have := Nat.mul_le_mul_right k (show i + 1 ≤ n by omega); rw [Nat.add_mul, Nat.one_mul] at this; omega)]
      exact ih h
    · obtain rfl : i = n := by omega
      rw [List.getElem?_append_right (by omega), hl, show i * k + j - i * k = j by omega, List.getElem?_map, List.getElem?_range hj]
      rfl
theorem keep_cell {S : Nat → Prop} {w w' : World} {b o : Nat} (h : Keep S w w') (hb : b < w.heap.size) (hs : ¬ S b) : w'.cell? ⟨b, o, none⟩ = w.cell? ⟨b, o, none⟩ :=
  World.cell?_of_block (w := w) (h.block b hb hs)

theorem length_qAdd (l : List Int) (a : Int) : (qAdd l a).length ≤ l.length + 1 := by unfold qAdd; split <;> simp

set_option maxRecDepth 100000 in
set_option maxHeartbeats 1000000 in
theorem queuePlays_any (ao : Option Addr) (n c : Nat) (F : Nat → Nat → Int) (w : World) (hr : RowAt w ao (tabCells F n 2)) (hF : ∀ i j, i < n → j < 2 → (Lit.int .i64 (F i j)).wf = true) (hnc : n ≤ c) (hc : c ≤ 9223372036854775807) :
    Calls Try.prog 6 #[.slice ao n c] w fun e w' => e = .returned (.bool true) ∧ Below w.heap.size w w' := by
  have HF := hidP hF
  clear hF
  go_enter Try.func6, Try.ntmps6
  go_wp2_with fail
  refine (newQ_any _).mono ?_
  rintro e w1 ⟨rfl, rfl⟩
  have h1 := two_new w
  have hb1 := bnew (bnew (brefl w) (.cells #[.slice none 0 0, .string ⟨#[]⟩] 74)) (.cells #[.slice none 0 0] 43)
  go_wp2_with (go_at_call 18; refine (awake20_any _).mono ?_; rintro e w2 ⟨rfl, hb2⟩)
  have h2 := h1.below hb2
  have hB2 := bstep hb1 hb2
  clear h1 hb1 hb2
  go_loopw [5] (fun v wr => ∃ (k : Nat) (l : List Int) (own : Nat → Prop), v = .int .i64 k ∧ k ≤ n ∧ k ≤ 100 ∧ l.length ≤ k ∧ Two wr w.heap.size (w.heap.size + 1) own l l ∧ Hid (∀ j, own j → w.heap.size ≤ j) ∧ Below w.heap.size w wr) (fun v _ => n - (intOf v).toNat)
  case atStart => exact ⟨0, [], _, rfl, by omega, by omega, by simp, h2, by rintro j (h | h | h | h) <;> first | omega | simp at h, hB2⟩
  case round =>
    obtain ⟨k, l, own, rfl, hkn, hk100, hlk, h3, HO, hb3⟩ := hrel
    clear h2 hB2
    by_cases hlt : k < n ∧ k < 100
    · obtain ⟨hlt, hlt1⟩ := hlt
      obtain ⟨b, o, rfl, hca⟩ := (hr.below hb3).addr (by rw [length_tab]; omega)
      obtain ⟨kd, hkd⟩ : ∃ x, F k 0 = x := ⟨_, rfl⟩
      obtain ⟨a, ha⟩ : ∃ x, F k 1 = x := ⟨_, rfl⟩
      have ck : wr.cell? ⟨b, o + k * 2, none⟩ = some (.int .i64 kd) := by rw [← hkd]; exact hca _ _ (tab_at F n 2 k 0 hlt (by omega))
      have ca : wr.cell? ⟨b, o + k * 2 + 1, none⟩ = some (.int .i64 a) := by rw [← ha]; have := hca _ _ (tab_at F n 2 k 1 hlt (by omega)); rwa [← Nat.add_assoc] at this
      have ba := bounds_i64 (HF.out k 1 hlt (by omega))
      rw [ha] at ba
      obtain ⟨ba0, ba1⟩ := ba
      clear hkd ha hca
      have hnb : ¬ own wr.heap.size := fun h => absurd (h3.lt _ h) (by omega)
      have hall := bnew (brefl wr) (.cells #[.int .i64 kd, .int .i64 a] 45)
      have hsr := hb3.size
      by_cases hk1 : kd = 1
      · subst hk1
        go_wp2_with fail
        have hT := h3.below hall.drew
        have hbx : wr.heap.size < (wr.alloc (.cells #[.int .i64 (1), .int .i64 a] 45)).drew.heap.size := by simp
        go_region_held3 (fun w' => w'.cell? ⟨wr.heap.size, 1, none⟩ = some (.int .i64 a))
          (first | go_keep | exact (keep_cell hk5 hbx4 hnb4).trans (by assumption) | exact (keep_cell hk4 hbx hnb).trans (by assumption) | fail)
          (first
            | (go_at_call 22; refine (twoRem _ _ _ own l l a hT (by omega)).mono ?_; rintro e w4 ⟨rfl, own4, h4, hk4, ho4⟩; have hbx4 : wr.heap.size < w4.heap.size := Nat.lt_of_lt_of_le hbx hk4.size; have hnb4 : ¬ own4 wr.heap.size := fun h => (ho4 _ h).elim hnb (fun h => absurd hbx (by omega)))
            | (go_at_call 23; refine (twoRemR _ _ _ own4 (l.erase a) l a h4 (by omega)).mono ?_; rintro e w5 ⟨rfl, own5, h5, hk5, ho5⟩)
            | fail)
        have hla := List.length_erase_le (a := a) (l := l)
        have HO4 : ∀ j, own4 j → w.heap.size ≤ j := by
          intro j hj
          rcases ho4 j hj with h | h
          · exact HO.out j h
          · simp at h; omega
        have hs4 := hk4.size
        simp at hs4
        have HO5 : Hid (∀ j, own5 j → w.heap.size ≤ j) := by
          intro j hj
          rcases ho5 j hj with h | h
          · exact HO4 j h
          · omega
        have hB5 : Below w.heap.size w w5 := ((hb3.alloc hb3.size _).drew.trans (hk4.below (by simp; omega) HO.out)).trans (hk5.below (by omega) HO4)
        clear h4 hk4 ho4 hk5 ho5 HO4
        have hl5 : (l.erase a).length ≤ k + 1 := by omega
        obtain ⟨ra, rc, cr, rr, rl⟩ := h5.row
        have h5d := h5.below (brefl w5).drew
        have rrd : RowAt w5.drew ra ((l.erase a).map (Value.int .i64)) := rr
        generalize hl' : (l.erase a) = l' at *
        have hl6 : l'.length ≤ 900000 := by omega
        clear hl' ck ca
        go_wp2_with fail
        go_region_held3 (fun w' => w'.cell? ⟨w.heap.size + 1, 0, none⟩ = some (.slice ra l'.length rc))
          (first | go_keep | exact (hb8.cell (p := ⟨w.heap.size + 1, 0, none⟩) rl7).trans (by assumption) | exact (hb7.cell (p := ⟨w.heap.size + 1, 0, none⟩) rl6).trans (by assumption) | exact (hb6.cell (p := ⟨w.heap.size + 1, 0, none⟩) rl).trans (by assumption) | fail)
          (first
            | (go_at_call 27; refine (twoAll _ _ _ own5 l' l' h5d hl6).mono ?_; rintro e w6 ⟨a6, c6, rfl, hown6, hb6⟩; have h6 := h5d.below hb6; have rr6 := rrd.below hb6; have ro6 := owns_row hown6; have rl6 : w.heap.size + 1 < w6.heap.size := Nat.lt_of_lt_of_le rl hb6.size)
            | (go_at_call 26; refine (plainInt_yes a6 ra _ _ c6 rc l' l' _ ro6 rr6 rfl rfl (by omega) rfl).mono ?_; rintro e w7 ⟨rfl, hb7⟩; have h7 := h6.below hb7; have rl7 : w.heap.size + 1 < w7.heap.size := Nat.lt_of_lt_of_le rl6 hb7.size)
            | (go_at_call 21; refine (twoLen _ _ _ own5 l' l' h7 hl6).mono ?_; rintro e w8 ⟨rfl, hb8⟩)
            | fail)
        have h8 := h7.below hb8
        have hB8 := (bstep (bstep (hB5.drew.trans (hb6.mono hB5.size)) hb7) hb8)
        clear hb6 hb7 hb8 h5 h5d h6 h7 rr rrd rr6 ro6 hown6 cr hr h3
        go_wp2
        go_roundw
        case rel => exact ⟨k + 1, l', own5, by go_num, by omega, by omega, hl5, h8, HO5, hB8⟩
        case measure => simp [intOf]; omega
      · have t1 : (kd == 1) = false := by simp [hk1]
        by_cases hk2 : kd = 2
        · subst hk2
          have hT := h3.below hall
          go_wp2_with fail
          refine (twoAt _ _ _ own l l a hT (by omega) ba0 ba1).mono ?_
          rintro e w4 ⟨rfl, hb4⟩
          obtain ⟨hc4, _⟩ := bcell hb4
          have c4 : w4.cell? ⟨wr.heap.size, 1, none⟩ = some (.int .i64 a) := (hc4 wr.heap.size 1 (by simp)).trans (by go_simp)
          have h4 := hT.below hb4
          clear hc4
          go_wp2_with fail
          refine (twoAtR _ _ _ own l l a h4 (by omega) ba0 ba1).mono ?_
          rintro e w5 ⟨rfl, hb5⟩
          have h5 := h4.below hb5
          have HO5 := HO
          have hB5 : Below w.heap.size w w5 := bstep (bstep (bnew hb3 _) hb4) hb5
          have hl5 : l.length ≤ k + 1 := by omega
          obtain ⟨own5, hown5⟩ : ∃ own5, own5 = own := ⟨_, rfl⟩
          rw [← hown5] at h5 HO5
          clear h4 hb4 hb5 c4 hown5
          obtain ⟨ra, rc, cr, rr, rl⟩ := h5.row
          have h5d := h5.below (brefl w5).drew
          have rrd : RowAt w5.drew ra ((l).map (Value.int .i64)) := rr
          generalize hl' : (l) = l' at *
          have hl6 : l'.length ≤ 900000 := by omega
          clear hl' ck ca
          go_wp2_with fail
          go_region_held3 (fun w' => w'.cell? ⟨w.heap.size + 1, 0, none⟩ = some (.slice ra l'.length rc))
            (first | go_keep | exact (hb8.cell (p := ⟨w.heap.size + 1, 0, none⟩) rl7).trans (by assumption) | exact (hb7.cell (p := ⟨w.heap.size + 1, 0, none⟩) rl6).trans (by assumption) | exact (hb6.cell (p := ⟨w.heap.size + 1, 0, none⟩) rl).trans (by assumption) | fail)
            (first
              | (go_at_call 27; refine (twoAll _ _ _ own5 l' l' h5d hl6).mono ?_; rintro e w6 ⟨a6, c6, rfl, hown6, hb6⟩; have h6 := h5d.below hb6; have rr6 := rrd.below hb6; have ro6 := owns_row hown6; have rl6 : w.heap.size + 1 < w6.heap.size := Nat.lt_of_lt_of_le rl hb6.size)
              | (go_at_call 26; refine (plainInt_yes a6 ra _ _ c6 rc l' l' _ ro6 rr6 rfl rfl (by omega) rfl).mono ?_; rintro e w7 ⟨rfl, hb7⟩; have h7 := h6.below hb7; have rl7 : w.heap.size + 1 < w7.heap.size := Nat.lt_of_lt_of_le rl6 hb7.size)
              | (go_at_call 21; refine (twoLen _ _ _ own5 l' l' h7 hl6).mono ?_; rintro e w8 ⟨rfl, hb8⟩)
              | fail)
          have h8 := h7.below hb8
          have hB8 := (bstep (bstep (hB5.drew.trans (hb6.mono hB5.size)) hb7) hb8)
          clear hb6 hb7 hb8 h5 h5d h6 h7 rr rrd rr6 ro6 hown6 cr hr h3
          go_wp2
          go_roundw
          case rel => exact ⟨k + 1, l', own5, by go_num, by omega, by omega, hl5, h8, HO5, hB8⟩
          case measure => simp [intOf]; omega
        · have t2 : (kd == 2) = false := by simp [hk2]
          go_wp2_with fail
          have hT := h3.below hall.drew
          have hbx : wr.heap.size < (wr.alloc (.cells #[.int .i64 (kd), .int .i64 a] 45)).drew.heap.size := by simp
          go_region_held3 (fun w' => w'.cell? ⟨wr.heap.size, 1, none⟩ = some (.int .i64 a))
            (first | go_keep | exact (keep_cell hk5 hbx4 hnb4).trans (by assumption) | exact (keep_cell hk4 hbx hnb).trans (by assumption) | fail)
            (first
              | (go_at_call 19; refine (twoAdd _ _ _ own l l a hT (by omega)).mono ?_; rintro e w4 ⟨rfl, own4, h4, hk4, ho4⟩; have hbx4 : wr.heap.size < w4.heap.size := Nat.lt_of_lt_of_le hbx hk4.size; have hnb4 : ¬ own4 wr.heap.size := fun h => (ho4 _ h).elim hnb (fun h => absurd hbx (by omega)))
              | (go_at_call 25; refine (twoAddR _ _ _ own4 (qAdd l a) l a h4 (by omega)).mono ?_; rintro e w5 ⟨rfl, own5, h5, hk5, ho5⟩)
              | fail)
          have hla := length_qAdd l a
          have HO4 : ∀ j, own4 j → w.heap.size ≤ j := by
            intro j hj
            rcases ho4 j hj with h | h
            · exact HO.out j h
            · simp at h; omega
          have hs4 := hk4.size
          simp at hs4
          have HO5 : Hid (∀ j, own5 j → w.heap.size ≤ j) := by
            intro j hj
            rcases ho5 j hj with h | h
            · exact HO4 j h
            · omega
          have hB5 : Below w.heap.size w w5 := ((hb3.alloc hb3.size _).drew.trans (hk4.below (by simp; omega) HO.out)).trans (hk5.below (by omega) HO4)
          clear h4 hk4 ho4 hk5 ho5 HO4
          have hl5 : (qAdd l a).length ≤ k + 1 := by omega
          obtain ⟨ra, rc, cr, rr, rl⟩ := h5.row
          have h5d := h5.below (brefl w5).drew
          have rrd : RowAt w5.drew ra ((qAdd l a).map (Value.int .i64)) := rr
          generalize hl' : (qAdd l a) = l' at *
          have hl6 : l'.length ≤ 900000 := by omega
          clear hl' ck ca
          go_wp2_with fail
          go_region_held3 (fun w' => w'.cell? ⟨w.heap.size + 1, 0, none⟩ = some (.slice ra l'.length rc))
            (first | go_keep | exact (hb8.cell (p := ⟨w.heap.size + 1, 0, none⟩) rl7).trans (by assumption) | exact (hb7.cell (p := ⟨w.heap.size + 1, 0, none⟩) rl6).trans (by assumption) | exact (hb6.cell (p := ⟨w.heap.size + 1, 0, none⟩) rl).trans (by assumption) | fail)
            (first
              | (go_at_call 27; refine (twoAll _ _ _ own5 l' l' h5d hl6).mono ?_; rintro e w6 ⟨a6, c6, rfl, hown6, hb6⟩; have h6 := h5d.below hb6; have rr6 := rrd.below hb6; have ro6 := owns_row hown6; have rl6 : w.heap.size + 1 < w6.heap.size := Nat.lt_of_lt_of_le rl hb6.size)
              | (go_at_call 26; refine (plainInt_yes a6 ra _ _ c6 rc l' l' _ ro6 rr6 rfl rfl (by omega) rfl).mono ?_; rintro e w7 ⟨rfl, hb7⟩; have h7 := h6.below hb7; have rl7 : w.heap.size + 1 < w7.heap.size := Nat.lt_of_lt_of_le rl6 hb7.size)
              | (go_at_call 21; refine (twoLen _ _ _ own5 l' l' h7 hl6).mono ?_; rintro e w8 ⟨rfl, hb8⟩)
              | fail)
          have h8 := h7.below hb8
          have hB8 := (bstep (bstep (hB5.drew.trans (hb6.mono hB5.size)) hb7) hb8)
          clear hb6 hb7 hb8 h5 h5d h6 h7 rr rrd rr6 ro6 hown6 cr hr h3
          go_wp2
          go_roundw
          case rel => exact ⟨k + 1, l', own5, by go_num, by omega, by omega, hl5, h8, HO5, hB8⟩
          case measure => simp [intOf]; omega
    · have hd : (k : Int) < n → ¬ (k : Int) < 100 := by omega
      go_wp2
      all_goals
        go_ret
        exact ⟨rfl, hb3⟩

theorem opened_t45 {H : Type} {enc : TypeId × Value → H} {w : World} {base : Nat} {spare : Nat → Bool} {held : Bool} {a : Option Addr} {n cap : Nat} {d : DataW H} {p : List MemPlace}
    (h : DataW.Trod enc Try.prog w base spare held 39 (.slice a n cap) d p) :
    ∃ F : Nat → Nat → Int, RowAt w a (tabCells F n 2) ∧ (∀ i j, i < n → j < 2 → (Lit.int .i64 (F i j)).wf = true) ∧ n ≤ cap ∧ cap ≤ maxLen :=
  opened_recs Try.underlying39 Try.underlying45 (by kernel_rfl) (by kernel_rfl) (by decide) (by
    intro j f hj
    match j with
    | 0 => simp at hj; subst hj; exact Try.underlying3
    | 1 => simp at hj; subst hj; exact Try.underlying3
    | j + 2 => simp at hj) h

theorem queuePlaysW (w : World) (ao : Option Addr) (n c : Nat) (F : Nat → Nat → Int) (hr : RowAt w ao (tabCells F n 2)) (hF : ∀ i j, i < n → j < 2 → (Lit.int .i64 (F i j)).wf = true) (hb : n ≤ c ∧ c ≤ maxLen) :
    Calls Try.prog 6 #[.slice ao n c] w fun e w' => e = .returned (.bool true) ∧ Below w.heap.size w w' :=
  queuePlays_any ao n c F w hr hF hb.1 (by have := hb.2; unfold maxLen at this; omega)
end Go.Proofs.Ytjjfemhpdhkolaa
