/-
  The walk of the law QueueOnce: the loop, and what stands behind it.
-/
import Derived.Test.YtjjfemhpdhkolaaOnce
import Derived.Test.YtjjfemhpdhkolaaStepB
import Derived.Deep.DeepCutAuto
import Derived.Deep.CutBlock
namespace Go.Proofs.Ytjjfemhpdhkolaa
open Go.RowKit
set_option linter.unusedVariables false
set_option linter.unusedSimpArgs false

theorem wtAdd' (w : World) (q : Nat) (own : Nat → Prop) (l lw : List Int) (ao : Option Addr) (cap : Nat) (a : Int) (b : Bool) (l' : List Int) (h : Wt w q own l ao cap lw) (hl : l.length ≤ 900000) (hb : decide (a ∉ l) = b) (hl' : qAdd l a = l') :
    Calls Try.prog 19 #[.pointer (some ⟨q, 0, none⟩), .int .i64 a] w (WPost w q own (.bool b) l' ao cap lw) := by
  subst hb hl'
  exact wtAdd w q own l lw ao cap a h hl
theorem wtRem' (w : World) (q : Nat) (own : Nat → Prop) (l lw : List Int) (ao : Option Addr) (cap : Nat) (a : Int) (b : Bool) (l' : List Int) (h : Wt w q own l ao cap lw) (hl : l.length ≤ 900000) (hb : decide (a ∈ l) = b) (hl' : l.erase a = l') :
    Calls Try.prog 22 #[.pointer (some ⟨q, 0, none⟩), .int .i64 a] w (WPost w q own (.bool b) l' ao cap lw) := by
  subst hb hl'
  exact wtRem w q own l lw ao cap a h hl
theorem wtAt' (w : World) (q : Nat) (own : Nat → Prop) (l lw : List Int) (ao : Option Addr) (cap : Nat) (i x : Int) (b : Bool) (h : Wt w q own l ao cap lw) (hl : l.length ≤ 900000) (hi0 : -9223372036854775808 ≤ i) (hi1 : i ≤ 9223372036854775807) (hx : qAt l i = x) (hb : decide (l ≠ []) = b) :
    Calls Try.prog 20 #[.pointer (some ⟨q, 0, none⟩), .int .i64 i] w fun e w' => e = .returned (.tuple #[.int .i64 x, .bool b]) ∧ Below w.heap.size w w' := by
  subst hx hb
  exact wtAt w q own l lw ao cap i h hl hi0 hi1
theorem in' (ao : Option Addr) (n c : Nat) (l : List Int) (x : Int) (w : World) (b : Bool) (hr : RowAt w ao (l.map (Value.int .i64))) (hn : l.length = n) (hmax : n ≤ 140737488355328) (hb : decide (x ∈ l) = b) :
    Calls Try.prog 28 #[.slice ao n c, .int .i64 x] w fun e w' => e = .returned (.bool b) ∧ w = w' := by
  subst hb
  exact in_any ao n c l x w hr hn hmax

set_option maxRecDepth 100000 in
set_option maxHeartbeats 1600000 in
theorem queueOnce_any (ao : Option Addr) (n c : Nat) (zs : List Int) (gone : Int) (w : World) (hr : RowAt w ao (zs.map (Value.int .i64))) (hn : zs.length = n) (hnc : n ≤ c) (hc : c ≤ 9223372036854775807) :
    Calls Try.prog 7 #[.slice ao n c, .int .i64 gone] w fun e w' => e = .returned (.bool true) ∧ Below w.heap.size w w' := by
  have Hn := hidP hn
  clear hn
  go_enter Try.func7, Try.ntmps7
  go_wp2_with fail
  refine (newQ_any _).mono ?_
  rintro e w1 ⟨rfl, rfl⟩
  have h1 := wt_new w
  have hb1 := bnew (brefl w) (.cells #[.slice none 0 0, .string ⟨#[]⟩] 74)
  go_upto_block 0 with (go_at_call 18; refine (awake20_any _).mono ?_; rintro e w2 ⟨rfl, hb2⟩)
  have h2 := h1.below hb2
  have hB2 := bstep hb1 hb2
  clear h1 hb1 hb2
  go_cut [4, 6, 7] from 22 (fun _ v6 _ wx => ∃ (l : List Int) (own : Nat → Prop) (so : Option Addr) (sc : Nat), v6 = .slice so l.length sc ∧ l.length ≤ 30 ∧ Hid l.Nodup ∧ Wt wx w.heap.size own l so sc l ∧ Hid (∀ j, own j → w.heap.size ≤ j) ∧ Below w.heap.size w wx)
  case first =>
    go_wp2_with fail
    go_loopw [6, 7] (fun v6 v wr => ∃ (k : Nat) (l : List Int) (own : Nat → Prop) (so : Option Addr) (sc : Nat), v6 = .slice so l.length sc ∧ v = .int .i64 k ∧ k ≤ n ∧ k ≤ 30 ∧ l.length ≤ k ∧ Hid l.Nodup ∧ Wt wr w.heap.size own l so sc l ∧ Hid (∀ j, own j → w.heap.size ≤ j) ∧ Below w.heap.size w wr) (fun _ v _ => n - (intOf v).toNat)
    case atStart => exact ⟨0, [], _, none, 0, rfl, rfl, by omega, by omega, by simp, List.nodup_nil, h2, by rintro j (h | h | h) <;> first | omega | simp at h, hB2⟩
    case round =>
      obtain ⟨k, l, own, so, sc, rfl, rfl, hkn, hk30, hlk, HN, h3, HO, hb3⟩ := hrel
      clear h2 hB2
      have hsr := hb3.size
      by_cases hlt : k < n ∧ k < 30
      · obtain ⟨hlt, hlt1⟩ := hlt
        obtain ⟨b, o, rfl, hca⟩ := hr.addr (by rw [List.length_map, Hn.out]; omega)
        obtain ⟨x, hx⟩ : ∃ x, zs[k]? = some x := ⟨_, List.getElem?_eq_getElem (by rw [Hn.out]; omega)⟩
        have cx0 : w.cell? ⟨b, o + k, none⟩ = some (.int .i64 x) := hca k _ (by rw [List.getElem?_map, hx]; rfl)
        have hbw : b < w.heap.size := World.block_lt_of_cell? w _ cx0
        have cx : wr.cell? ⟨b, o + k, none⟩ = some (.int .i64 x) := (hb3.cell (p := ⟨b, o + k, none⟩) hbw).trans cx0
        have i0 : (0 : Int) ≤ (k : Int) := by omega
        have i1 : (k : Int) < (n : Int) := by omega
        have hnb : ¬ own b := fun h => absurd (HO.out b h) (by omega)
        have hbr : b < wr.heap.size := by omega
        have hll : l.length ≤ 900000 := by omega
        clear hx hca cx0
        by_cases hin : x ∈ l
        · have hd : decide (x ∉ l) = false := by simp [hin]
          have hd1 : decide (x ∈ l) = true := by simp [hin]
          have hq : qAdd l x = l := by unfold qAdd; rw [if_pos hin]
          have hT := h3.below (brefl wr).drew
          have hin2 := hidP hq
          have hin3 := hidP hd
          have hin4 := hidP hd1
          clear hq hd hd1 hin
          go_wp2_with fail
          go_region_held3 (fun w' => w'.cell? ⟨b, o + k, none⟩ = some (.int .i64 x))
            (first | go_keep | exact (keep_cell hk4 hbr hnb).trans (by assumption) | fail)
            (first
              | (go_at_call 19; refine (wtAdd' _ _ own l l so sc x false _ hT hll hin3.out hin2.out).mono ?_; rintro e w4 ⟨rfl, own4, h4, hk4, ho4⟩)
              | (go_at_call 28; refine (in' so _ sc l x _ true h4.row.1 rfl (by omega) hin4.out).mono ?_; rintro e w5 ⟨rfl, rfl⟩)
              | fail)
          have c4 : w4.cell? ⟨b, o + k, none⟩ = some (.int .i64 x) := (keep_cell hk4 hbr hnb).trans cx
          have r4 := h4.row.1
          have hs4 : wr.heap.size ≤ w4.heap.size := hk4.size
          have HO4 : Hid (∀ j, own4 j → w.heap.size ≤ j) := by
            intro j hj
            rcases ho4 j hj with h | h
            · exact HO.out j h
            · have : wr.heap.size ≤ j := h
              omega
          have hB4 : Below w.heap.size w w4 := hb3.drew.trans (hk4.below hsr HO.out)
          clear hk4 ho4
          go_wp2_with (go_at_call 28; refine (in' so _ sc l x _ true r4 rfl (by omega) hin4.out).mono ?_; rintro e w5 ⟨rfl, rfl⟩)
          go_roundw
          case rel => exact ⟨k + 1, l, own4, so, sc, rfl, by go_num, by omega, by omega, by omega, HN, h4, HO4, hB4⟩
          case measure => simp [intOf]; omega
        · have hd : decide (x ∉ l) = true := by simp [hin]
          have hd1 : decide (x ∈ l) = false := by simp [hin]
          have hq : qAdd l x = l ++ [x] := by unfold qAdd; rw [if_neg hin]
          have hT := h3.below (brefl wr).drew
          have hin2 := hidP hq
          have hin3 := hidP hd
          have hin4 := hidP hd1
          clear hq hd hd1 hin
          go_wp2_with fail
          go_region_held3 (fun w' => w'.cell? ⟨b, o + k, none⟩ = some (.int .i64 x))
            (first | go_keep | exact (keep_cell hk4 hbr hnb).trans (by assumption) | fail)
            (first
              | (go_at_call 19; refine (wtAdd' _ _ own l l so sc x true _ hT hll hin3.out hin2.out).mono ?_; rintro e w4 ⟨rfl, own4, h4, hk4, ho4⟩)
              | (go_at_call 28; refine (in' so _ sc l x _ false h4.row.1 rfl (by omega) hin4.out).mono ?_; rintro e w5 ⟨rfl, rfl⟩)
              | fail)
          have c4 : w4.cell? ⟨b, o + k, none⟩ = some (.int .i64 x) := (keep_cell hk4 hbr hnb).trans cx
          have r4 := h4.row.1
          have hs4 : wr.heap.size ≤ w4.heap.size := hk4.size
          have HO4 : Hid (∀ j, own4 j → w.heap.size ≤ j) := by
            intro j hj
            rcases ho4 j hj with h | h
            · exact HO.out j h
            · have : wr.heap.size ≤ j := h
              omega
          have hB4 : Below w.heap.size w w4 := hb3.drew.trans (hk4.below hsr HO.out)
          clear hk4 ho4
          go_wp2_with (first | (go_at_call 28; refine (in' so _ sc l x _ false r4 rfl (by omega) hin4.out).mono ?_; rintro e w5 ⟨rfl, rfl⟩) | (at_builtin; refine (wpList_app _ rfl (.tmp 52) (.tmp 57) rfl Try.slInt 0 (.slice so l.length sc) l.length (l.map (Value.int .i64)) rfl (h4.owns.alloc _) (some ⟨w4.heap.size, 0, none⟩) 1 1 [.int .i64 x] rfl (l.length + 1) rfl (RowAt.new w4 [.int .i64 x] _) rfl (by simp; rfl) (by omega) (by unfold maxLen; omega) (Nat.zero_le _) ?_); intro a5 c5 w5 ho5 hg5 hw5))
          have hlen : (l ++ [x]).length = l.length + 1 := by simp
          have ho6 := ho5
          rw [← hlen] at ho6 hw5
          have hko : ∀ j, (Value.slice a5 (l ++ [x]).length c5).ownBlock = some j → (Value.slice so l.length sc).ownBlock = some j ∨ w4.heap.size ≤ j := by
            intro j hj
            rcases hw5 with h | h
            · exact .inl (h ▸ hj)
            · rw [h] at hj; cases hj; right; simp
          obtain ⟨own5, h5, hk5, ho7⟩ := h4.other (lw' := l ++ [x]) (by rw [List.map_append]; exact ho6) ((Keep.refl _ _ |>.alloc _).then (.of_grown hg5 (fun k hk => hk)) (fun i _ h => h)) hko
          have HO5 : Hid (∀ j, own5 j → w.heap.size ≤ j) := by
            intro j hj
            rcases ho7 j hj with h | h
            · exact HO4.out j h
            · have := hB4.size; omega
          have hB5 : Below w.heap.size w w5 := hB4.trans (hk5.below hB4.size HO4.out)
          have HN5 : Hid (l ++ [x]).Nodup := by
            have := nodup_qAdd HN.out x
            rw [hin2.out] at this
            exact this
          rw [← hlen]
          go_roundw
          case rel => exact ⟨k + 1, l ++ [x], own5, a5, c5, rfl, by go_num, by omega, by omega, by rw [hlen]; omega, HN5, h5, HO5, hB5⟩
          case measure => simp [intOf]; omega
      · have hd : (k : Int) < n → ¬ (k : Int) < 30 := by omega
        go_wp2
        all_goals
          go_meet
          exact ⟨l, own, so, sc, rfl, by omega, HN, h3, HO, hb3⟩

  case rest =>
    obtain ⟨l, own, so, sc, rfl, hl30, HN, h3, HO, hb3⟩ := hcut
    clear h2 hB2 hr
    go_upto_if 61 with fail
    go_cut [4, 6, 8, 9, 10, 11] from 59 (fun _ v6 _ _ _ _ wx => ∃ (l : List Int) (own : Nat → Prop) (so : Option Addr) (sc : Nat), v6 = .slice so l.length sc ∧ l.length ≤ 31 ∧ Wt wx w.heap.size own l so sc l ∧ Hid (∀ j, own j → w.heap.size ≤ j) ∧ Below w.heap.size w wx)
    case first =>
      by_cases h0 : l.length = 0
      · go_wp2
        go_meet
        exact ⟨l, own, so, sc, rfl, by omega, h3, HO, hb3⟩
      · have h0' : 0 < l.length := by omega
        obtain ⟨r, hr, hr1, hr2⟩ := modU gone l.length h0' (by omega)
        have HR := hidP hr
        have HR2 := hidP hr2
        obtain ⟨x, hx⟩ : ∃ x, l[r]? = some x := ⟨_, List.getElem?_eq_getElem (by omega)⟩
        obtain ⟨b, o, rfl, hca⟩ := h3.row.1.addr (by rw [List.length_map]; omega)
        have cx : wc.cell? ⟨b, o + r, none⟩ = some (.int .i64 x) := hca r _ (by rw [List.getElem?_map, hx]; rfl)
        obtain ⟨hE, hnE⟩ := erase_nodup HN.out hx
        have hdm : decide (x ∈ l) = true := by simp [List.mem_of_getElem? hx]
        have HX := hidP hx
        have HE := hidP hE
        have HDM := hidP hdm
        have hscl := h3.row.2
        clear hr hr2 hx hca hE hdm
        have hL0 : (l.take r ++ l.drop (r + 1)).length = l.length - 1 := by rw [List.length_append, List.length_take, List.length_drop]; omega
        have hq1 : qAdd (l.take r ++ l.drop (r + 1)) x = (l.take r ++ l.drop (r + 1)) ++ [x] := by unfold qAdd; rw [if_neg hnE]
        have hd1 : decide (x ∉ l.take r ++ l.drop (r + 1)) = true := by rw [decide_eq_true_iff]; exact hnE
        have HL0 := hidP hL0
        have HQ1 := hidP hq1
        have HD1 := hidP hd1
        clear hL0 hq1 hd1 hnE
        go_upto_region 14 with fail
        rw [HR.out, HR2.out]
        go_upto_region 17 with (first | (go_at_call 22; refine (wtRem' _ _ own l l _ sc x true _ h3 (by omega) HDM.out HE.out).mono ?_; rintro e w4 ⟨rfl, own4, h4, hk4, ho4⟩) | (go_at_call 19; refine (wtAdd' _ _ own4 _ l _ sc x true _ h4 (by rw [HL0.out]; omega) HD1.out HQ1.out).mono ?_; rintro e w5 ⟨rfl, own5, h5, hk5, ho5⟩))
        have hT5 := h5.row.1
        have hTk : RowAt w5 (some ⟨b, o, none⟩) ((l.take r).map (Value.int .i64)) := by rw [List.map_take]; exact hT5.take _
        have hTd : RowAt w5 (cutA (some ⟨b, o, none⟩) (r + 1) sc 1) ((l.drop (r + 1)).map (Value.int .i64)) := by
          have := hT5.cut (r + 1) sc 1 (by rw [List.length_map]; omega)
          rwa [Nat.mul_one, ← List.map_drop] at this
        have i0 : (0 : Int) ≤ (r : Int) := by omega
        have i1 : (r : Int) ≤ (sc : Int) := by omega
        have e1 : IntKind.i64.wrap ((r : Int) + 1) = (r : Int) + 1 := IntWalk.i64_in _ (by omega)
        have i2 : (0 : Int) ≤ (r : Int) + 1 := by omega
        have i3 : (r : Int) + 1 ≤ (l.length : Int) := by omega
        have i4 : ((r : Int) + 1).toNat = r + 1 := by omega
        have HE1 := hidP (RowAt.new w5 [.int .i64 x] 3)
        go_region_law
          (first
            | (refine step_appB _ (by rfl) (.const (.slice none 0 0)) (.tmp 85) (by rfl) Try.slInt w5 (by first | exact (brefl w5).drew | exact (bnew (brefl w5) _).drew) (.slice none 0 0) 0 [] (by rfl) (World.ownsRow_nil _ _ _ _) (some ⟨b, o, none⟩) r sc ((l.take r).map (Value.int .i64)) (by simp [Act.eval, Act.put]) r (by omega) (by first | exact hTk | exact hTk.alloc _) (by rw [List.length_map, List.length_take]; omega) (ints_one _ _) (by omega) (by unfold maxLen; omega) ?_; intro a1 c1 w6 ho6 hb6 hs6 hw6 hp6)
            | (refine step_appB _ (by rfl) (.tmp 86) (.tmp 90) (by rfl) Try.slInt w5 (by first | exact hb6 | exact bnew hb6 _) (.slice a1 r c1) r ([] ++ (l.take r).map (Value.int .i64)) (by simp [Act.eval, Act.put]) (by first | exact ho6 | exact ho6.alloc _) (cutA (some ⟨b, o, none⟩) (r + 1) sc 1) (l.length - (r + 1)) (sc - (r + 1)) ((l.drop (r + 1)).map (Value.int .i64)) (by simp [Act.eval, Act.put]) (l.length - 1) (by omega) (by first | exact hTd.below hb6 | exact (hTd.below hb6).alloc _) (by rw [List.length_map, List.length_drop]; omega) (ints_one _ _) (by omega) (by unfold maxLen; omega) ?_; intro a2 c2 w7 ho7 hb7 hs7 hw7 hp7)
            | (refine step_appB _ (by rfl) (.tmp 91) (.tmp 93) (by rfl) Try.slInt w5 (by first | exact hb7 | exact bnew hb7 _) (.slice a2 (l.length - 1) c2) (l.length - 1) ([] ++ (l.take r).map (Value.int .i64) ++ (l.drop (r + 1)).map (Value.int .i64)) (by simp [Act.eval, Act.put]) (by first | exact ho7 | exact ho7.alloc _) _ 1 1 [.int .i64 x] (by simp [Act.eval, Act.put]; first | done | rfl) l.length (by omega) (by first | exact RowAt.new w7 [.int .i64 x] _ | exact hp7 w6.heap.size _ (by simp) (fun e => absurd (ho6.lt _ e).2 (by omega)) (RowAt.new w6 [.int .i64 x] _) | exact hp7 w5.heap.size _ (by simp at hs6; omega) (fun e => by rcases hw6 _ e with h | h; (simp [Value.ownBlock] at h); (simp at h; try omega)) (hp6 w5.heap.size _ (by simp) (by simp [Value.ownBlock]) (RowAt.new w5 [.int .i64 x] _))) (by rfl) (by simp; rfl) (by omega) (by unfold maxLen; omega) ?_; intro a3 c3 w8 ho8 hb8 hs8 hw8 hp8)
            | fail)
        all_goals
          have hlen : (l.take r ++ l.drop (r + 1) ++ [x]).length = l.length := by rw [List.length_append, HL0.out]; simp; omega
          have ho9 := ho8
          rw [← hlen] at ho9
          have hge : ∀ j, (Value.slice a3 (l.take r ++ l.drop (r + 1) ++ [x]).length c3).ownBlock = some j → w5.heap.size ≤ j := fun j hj => (ho9.lt j hj).1
          obtain ⟨own9, h9, hk9, hn9⟩ := h5.other (lw' := l.take r ++ l.drop (r + 1) ++ [x]) (by rw [List.map_append, List.map_append]; exact owns_mono ho9 (Nat.zero_le _)) (.of_below hb8) (fun j hj => .inr (hge j hj))
          have hs4 := hk4.size
          have hs5 := hk5.size
          have hsc := hb3.size
          have HO4 : ∀ j, own4 j → w.heap.size ≤ j := by
            intro j hj
            rcases ho4 j hj with h | h
            · exact HO.out j h
            · omega
          have HO5 : ∀ j, own5 j → w.heap.size ≤ j := by
            intro j hj
            rcases ho5 j hj with h | h
            · exact HO4 j h
            · omega
          have HO9 : Hid (∀ j, own9 j → w.heap.size ≤ j) := by
            intro j hj
            rcases hn9 j hj with h | h
            · exact HO5 j h
            · omega
          have hB9 : Below w.heap.size w w8 := ((hb3.trans (hk4.below hsc HO.out)).trans (hk5.below (by omega) HO4)).trans (hb8.mono (by omega))
          rw [← hlen]
          clear hb6 hb7 hb8 hp6 hp7 hp8 ho6 ho7 ho8 hw6 hw7 hw8 hs6 hs7 hs8 h4 h5 hk4 hk5 ho4 ho5 h3 hb3 cx hge hk9 hn9 HO4 HO5
          have hx9 : qAt (l.take r ++ l.drop (r + 1) ++ [x]) ((l.length : Int) - 1) = x := by
            have hne : l.take r ++ l.drop (r + 1) ++ [x] ≠ [] := by simp
            unfold qAt
            rw [if_neg hne, hlen, if_neg (by omega), show ((l.length : Int) - 1).toNat = l.length - 1 by omega, Nat.mod_eq_of_lt (by omega), List.getD_eq_getElem?_getD, List.getElem?_append_right (by rw [HL0.out]; omega), HL0.out]
            simp
          have hd9 : decide (l.take r ++ l.drop (r + 1) ++ [x] ≠ []) = true := by simp
          have HX9 := hidP hx9
          have HD9 := hidP hd9
          clear hx9 hd9
          have hlm : (l.take r ++ l.drop (r + 1) ++ [x]).length ≤ 31 := by omega
          have hl1 : 1 ≤ (l.take r ++ l.drop (r + 1) ++ [x]).length := by omega
          rw [← hlen] at HX9
          generalize hL : l.take r ++ l.drop (r + 1) ++ [x] = L9 at *
          clear hL hlen
          go_wp2_with (go_at_call 20; refine (wtAt' _ _ own9 L9 L9 _ _ _ x true h9 (by omega) (by omega) (by omega) HX9.out HD9.out).mono ?_; rintro e w10 ⟨rfl, hb10⟩)
          go_meet
          exact ⟨L9, own9, a3, c3, rfl, hlm, h9.below hb10, HO9, bstep hB9 hb10⟩
    case rest =>
      obtain ⟨l, own, so, sc, rfl, hl31, h3, HO, hb3⟩ := hcut
      have hll : (l).length ≤ 900000 := by omega
      go_wp2_with (go_at_call 20; refine (atNil _ _).mono ?_; rintro e w20 ⟨rfl, rfl⟩)
      refine (wtAll _ _ _ (l) _ _ _ h3 hll).mono ?_
      rintro e w21 ⟨a21, c21, rfl, hown21, hb21⟩
      have r21 := owns_row hown21
      have rw21 := (h3).row.1.below hb21
      have hB21 := bstep hb3 hb21
      go_wp2_with fail
      refine (plainInt_yes a21 _ _ _ c21 _ (l) (l) _ r21 rw21 rfl rfl (by omega) rfl).mono ?_
      rintro e w22 ⟨rfl, hb22⟩
      have hB22 := bstep hB21 hb22
      go_wp2_with (first | (go_at_call 19; refine (addNil _ _).mono ?_; rintro e w23 ⟨rfl, rfl⟩) | (go_at_call 22; refine (removeNil _ _).mono ?_; rintro e w24 ⟨rfl, rfl⟩) | (go_at_call 27; refine (allNil _).mono ?_; rintro e w25 ⟨rfl, rfl⟩) | (go_at_call 21; refine (lenNil _).mono ?_; rintro e w26 ⟨rfl, rfl⟩))
      go_ret
      exact ⟨rfl, hB22⟩

theorem queueOnceW (w : World) (ao : Option Addr) (n c : Nat) (zs : List Int) (hr : RowAt w ao (zs.map (Value.int .i64))) (hn : zs.length = n) (hb : (∀ z ∈ zs, (Lit.int .i64 z).wf = true) ∧ n ≤ c ∧ c ≤ maxLen) (gone : Int) (_ : -9223372036854775808 ≤ gone ∧ gone ≤ 9223372036854775807) :
    Calls Try.prog 7 #[.slice ao n c, .int .i64 gone] w fun e w' => e = .returned (.bool true) ∧ Below w.heap.size w w' :=
  queueOnce_any ao n c zs gone w hr hn hb.2.1 (by have := hb.2.2; unfold maxLen at this; omega)
end Go.Proofs.Ytjjfemhpdhkolaa
