/-
  The walks over package queue.
-/
import Derived.Test.YtjjfemhpdhkolaaRows
import Derived.Test.YtjjfemhpdhkolaaOwn
import Derived.Test.YtjjfemhpdhkolaaQSpec
import Derived.Test.YtjjfemhpdhkolaaShelf
namespace Go.Proofs.Ytjjfemhpdhkolaa
open Go.RowKit
set_option linter.unusedVariables false

def AllAscii (s : ByteArray) : Prop := ∀ (k : Nat) (h : k < s.size), (s[k]'h).toNat < 128

/-- At block q lies a queue that holds l; its row lies in block g. -/
def QAt (w : World) (q : Nat) (g : Option Nat) (l : List Int) : Prop :=
  ∃ ao cap s, w.heap[q]? = some (.cells #[.slice ao l.length cap, .string s] 74 (0, 0)) ∧ s.size = l.length ∧ AllAscii s ∧ w.ownsRow 0 3 1 (.slice ao l.length cap) l.length (l.map (Value.int .i64)) ∧
    g = (Value.slice ao l.length cap).ownBlock ∧ g ≠ some q

theorem block_cell {w : World} {b : Nat} {cs : Array Value} {t : TypeId} {fr : Nat × Nat} (h : w.heap[b]? = some (.cells cs t fr)) (j : Nat) : w.cell? ⟨b, j, none⟩ = cs[j]? := cell_of_row w b j cs t fr h
theorem block_lt {w : World} {b : Nat} {o : Obj} (h : w.heap[b]? = some o) : b < w.heap.size := (Array.getElem?_eq_some_iff.1 h).1

theorem QAt.lt {w : World} {q : Nat} {g : Option Nat} {l : List Int} (h : QAt w q g l) : q < w.heap.size := by
  obtain ⟨ao, cap, s, hq, _⟩ := h
  exact block_lt hq
theorem QAt.glt {w : World} {q : Nat} {g : Option Nat} {l : List Int} (h : QAt w q g l) : ∀ k, g = some k → k < w.heap.size := by
  obtain ⟨ao, cap, s, hq, _, _, ho, rfl, _⟩ := h
  exact fun k hk => (ho.lt k hk).2
theorem QAt.keep {S : Nat → Prop} {w w' : World} {q : Nat} {g : Option Nat} {l : List Int} (h : QAt w q g l) (hk : Keep S w w') (hq : ¬ S q) (hg : ∀ k, g = some k → ¬ S k) : QAt w' q g l := by
  obtain ⟨ao, cap, s, h1, h2, h3, h4, rfl, h6⟩ := h
  exact ⟨ao, cap, s, (hk.block q (block_lt h1) hq).trans h1, h2, h3, owns_keep h4 hk hg, rfl, h6⟩
theorem QAt.below {w w' : World} {q : Nat} {g : Option Nat} {l : List Int} (h : QAt w q g l) (hb : Below w.heap.size w w') : QAt w' q g l :=
  h.keep (S := fun _ => False) (.of_below hb) (fun h => h) (fun _ _ h => h)

set_option maxRecDepth 100000 in
set_option maxHeartbeats 400000 in
theorem find_any (q : Nat) (g : Option Nat) (l : List Int) (a : Int) (w : World) (h : QAt w q g l) (hl : l.length ≤ 1000000) :
    Calls Try.prog 47 #[.pointer (some ⟨q, 0, none⟩), .int .i64 a] w fun e w' => e = .returned (.int .i64 (idxI l a)) ∧ Below w.heap.size w w' := by
  obtain ⟨ao, cap, s, hq, hs, has, ho, hg, hne⟩ := h
  have c0 := block_cell hq 0
  have c1 := block_cell hq 1
  simp at c0 c1
  have hqs := block_lt hq
  obtain ⟨n, hn⟩ : ∃ n, l.length = n := ⟨_, rfl⟩
  rw [hn] at c0 ho hs hl
  have Hn := hidP hn
  have Hs := hidP hs
  have Has := hidP has
  have hr := owns_row ho
  clear hn hs has ho hg hne hq
  go_enter Try.func47, Try.ntmps47
  go_wp2
  go_loopw [5] (fun _ wr => ∃ k : Nat, Hid (a ∉ l.take k) ∧ k ≤ n ∧ wr = w.iter s k) (fun _ wr => n - wr.iterPos w.heap.size)
  case atStart => exact ⟨0, by show a ∉ l.take 0; simp, by omega, rfl⟩
  case round =>
    obtain ⟨k, HM, hk, rfl⟩ := hrel
    by_cases hlt : k < n
    · have hks : k < s.size := by rw [Hs.out]; exact hlt
      have hnx := fun ty => run_next_ascii (P := Try.prog) w s k ty hks (Has.out k hks)
      obtain ⟨x, hx⟩ : ∃ x, l[k]? = some x := ⟨_, List.getElem?_eq_getElem (by rw [Hn.out]; exact hlt)⟩
      obtain ⟨b, o, rfl, hca⟩ := hr.addr (by rw [List.length_map, Hn.out]; omega)
      have cx : w.cell? ⟨b, o + k, none⟩ = some (.int .i64 x) := hca k _ (by rw [List.getElem?_map, hx]; rfl)
      have hbl := World.block_lt_of_cell? w _ cx
      have HX := hidP hx
      have d0 : (w.iter s (k + 1)).cell? ⟨q, 0, none⟩ = some (.slice (some ⟨b, o, none⟩) n cap) := by
        rw [(below_iter w s (k + 1)).cell (p := ⟨q, 0, none⟩) hqs]; exact c0
      have dx : (w.iter s (k + 1)).cell? ⟨b, o + k, none⟩ = some (.int .i64 x) := by
        rw [(below_iter w s (k + 1)).cell (p := ⟨b, o + k, none⟩) hbl]; exact cx
      clear hx hca hr cx
      go_wp2
      · have he : (x == a) = true := by assumption
        go_ret
        obtain rfl : x = a := by simpa using he
        exact ⟨by rw [idxI_found HM.out HX.out]; rfl, below_iter _ _ _⟩
      · have he : (x == a) = false := by assumption
        go_roundw
        case rel => exact ⟨k + 1, not_mem_take_succ HM.out HX.out (by simpa using he), by omega, rfl⟩
        case measure => simp; omega
    · have hnx := fun ty => run_next_end (P := Try.prog) w s k ty (by rw [Hs.out]; exact hlt)
      go_wp2
      go_ret
      exact ⟨by rw [idxI_none (not_mem_all HM.out (by rw [Hn.out]; omega))]; rfl, below_iter _ _ _⟩

set_option maxRecDepth 100000 in
set_option maxHeartbeats 400000 in
theorem len_any (q : Nat) (g : Option Nat) (l : List Int) (w : World) (h : QAt w q g l) (hl : l.length ≤ 1000000) :
    Calls Try.prog 21 #[.pointer (some ⟨q, 0, none⟩)] w fun e w' => e = .returned (.int .i64 l.length) ∧ Below w.heap.size w w' := by
  obtain ⟨ao, cap, s, hq, hs, has, ho, hg, hne⟩ := h
  have c1 := block_cell hq 1
  simp at c1
  obtain ⟨n, hn⟩ : ∃ n, l.length = n := ⟨_, rfl⟩
  rw [hn] at hs hl ⊢
  have Hs := hidP hs
  have Has := hidP has
  clear hn hs has ho hg hne hq
  go_enter Try.func21, Try.ntmps21
  go_wp2
  go_loopw [3] (fun v wr => ∃ k : Nat, v = .int .i64 k ∧ k ≤ n ∧ wr = w.iter s k) (fun _ wr => n - wr.iterPos w.heap.size)
  case atStart => exact ⟨0, rfl, by omega, rfl⟩
  case round =>
    obtain ⟨k, rfl, hk, rfl⟩ := hrel
    by_cases hlt : k < n
    · have hks : k < s.size := by rw [Hs.out]; exact hlt
      have hnx := fun ty => run_next_ascii (P := Try.prog) w s k ty hks (Has.out k hks)
      go_wp2
      go_roundw
      case rel => exact ⟨k + 1, by go_num, by omega, rfl⟩
      case measure => simp; omega
    · have hnx := fun ty => run_next_end (P := Try.prog) w s k ty (by rw [Hs.out]; exact hlt)
      go_wp2
      go_ret
      obtain rfl : k = n := by omega
      exact ⟨rfl, below_iter _ _ _⟩

theorem cloneInt_any (ao : Option Addr) (n c : Nat) (l : List Int) (w : World) (hr : RowAt w ao (l.map (Value.int .i64))) (hn : l.length = n) (hbig : n * 8 ≤ 140737488355328) :
    Calls Try.prog 51 #[.slice ao n c] w (RetRow w 3 1 n (l.map (Value.int .i64))) := by
  by_cases h0 : n = 0
  · subst h0
    have hl0 : l = [] := List.eq_nil_of_length_eq_zero hn
    subst hl0
    cases ao with
    | none =>
      refine (Try.slices_Clone_int_nil 0 c w).mono ?_
      rintro e w' ⟨rfl, rfl⟩
      exact retRow_mk (World.ownsRow_nil _ _ _ _) (Below.refl _ _)
    | some a =>
      refine (Try.slices_Clone_int_zero a c w).mono ?_
      rintro e w' ⟨v, rfl, h1, _, hb⟩
      exact retRow_mk h1 hb
  · obtain ⟨b, o, rfl, hc⟩ := hr.addr (by rw [List.length_map, hn]; omega)
    refine (Try.slices_Clone_int b o n c l w (by omega) hbig ?_).mono ?_
    · intro j hj
      refine hc j _ ?_
      rw [List.getElem?_map, List.getD_eq_getElem?_getD, List.getElem?_eq_getElem hj]
      rfl
    · rintro e w' ⟨v, rfl, h1, _, hb⟩
      rw [List.take_of_length_le (by omega)] at h1
      exact retRow_mk h1 hb

set_option maxRecDepth 100000 in
set_option maxHeartbeats 400000 in
theorem all_any (q : Nat) (g : Option Nat) (l : List Int) (w : World) (h : QAt w q g l) (hl : l.length ≤ 1000000) :
    Calls Try.prog 27 #[.pointer (some ⟨q, 0, none⟩)] w (RetRow w 3 1 l.length (l.map (Value.int .i64))) := by
  obtain ⟨ao, cap, s, hq, hs, has, ho, hg, hne⟩ := h
  have c0 := block_cell hq 0
  simp at c0
  have hr := owns_row ho
  clear hs has hg hne hq ho
  go_enter Try.func27, Try.ntmps27
  go_wp2_with fail
  refine (cloneInt_any ao l.length cap l _ hr rfl (by omega)).mono ?_
  rintro e w1 ⟨a1, c1, rfl, h1, hb1⟩
  go_wp2
  go_ret
  exact ⟨a1, c1, rfl, h1, hb1⟩

/-- Go's max(i, 0). -/
theorem qAt_pos {l : List Int} {i : Int} {n : Nat} (hn : l.length = n) (h0 : n ≠ 0) : ∃ x, l[(if i < 0 then 0 else i).toNat % n]? = some x ∧ qAt l i = x := by
  have hl : (if i < 0 then 0 else i).toNat % n < l.length := by rw [hn]; exact Nat.mod_lt _ (by omega)
  refine ⟨_, List.getElem?_eq_getElem hl, ?_⟩
  unfold qAt
  rw [if_neg (by intro h; subst h; simp at hn; omega), hn, List.getD_eq_getElem?_getD, List.getElem?_eq_getElem hl]
  rfl

set_option maxRecDepth 100000 in
set_option maxHeartbeats 400000 in
theorem at_any (q : Nat) (g : Option Nat) (l : List Int) (i : Int) (w : World) (h : QAt w q g l) (hl : l.length ≤ 1000000) (hi0 : -9223372036854775808 ≤ i) (hi1 : i ≤ 9223372036854775807) :
    Calls Try.prog 20 #[.pointer (some ⟨q, 0, none⟩), .int .i64 i] w fun e w' => e = .returned (.tuple #[.int .i64 (qAt l i), .bool (decide (l ≠ []))]) ∧ Below w.heap.size w w' := by
  have h' := h
  obtain ⟨ao, cap, s, hq, hs, has, ho, hg, hne⟩ := h
  have c0 := block_cell hq 0
  have hqs := block_lt hq
  simp at c0
  obtain ⟨n, hn⟩ : ∃ n, l.length = n := ⟨_, rfl⟩
  rw [hn] at c0 ho hl
  have Hn := hidP hn
  have hr := owns_row ho
  have hlen := len_any q g l w h' (by rw [hn]; exact hl)
  rw [hn] at hlen
  have HLen := hidP hlen
  have Hl : Hid (l.length ≤ 1000000) := by show _ ≤ _; rw [hn]; exact hl
  clear hn hs has ho hg hne hq hlen h'
  by_cases h0 : n = 0
  · subst h0
    have hl0 : l = [] := List.eq_nil_of_length_eq_zero Hn.out
    subst hl0
    go_enter Try.func20, Try.ntmps20
    go_wp2_with (go_at_call 21; refine HLen.out.mono ?_; rintro e w1 ⟨rfl, hb1⟩)
    go_ret2
    exact ⟨rfl, hb1⟩
  · obtain ⟨x, hx, hqa⟩ := qAt_pos (i := i) Hn.out h0
    have hd : decide (l ≠ []) = true := by
      rw [decide_eq_true_iff]
      intro e
      have := Hn.out
      subst e
      simp at this
      omega
    rw [hqa, hd]
    obtain ⟨b, o, rfl, hca⟩ := hr.addr (by rw [List.length_map, Hn.out]; omega)
    have cx : w.cell? ⟨b, o + (if i < 0 then 0 else i).toNat % n, none⟩ = some (.int .i64 x) := hca _ _ (by rw [List.getElem?_map, hx]; rfl)
    have hm : (if i < 0 then 0 else i).toNat % n < n := Nat.mod_lt _ (by omega)
    have h1 : ((n : Int) == 0) = false := by simp; omega
    have hbl := World.block_lt_of_cell? w _ cx
    clear hqa hd hr hca hx
    by_cases hneg : i < 0
    · rw [if_pos hneg] at cx hm
      have cx0 : w.cell? ⟨b, o, none⟩ = some (.int .i64 x) := by simpa using cx
      have hmx : max i 0 = 0 := by omega
      clear cx hm
      go_enter Try.func20, Try.ntmps20
      go_wp2_with (go_at_call 21; refine HLen.out.mono ?_; rintro e w1 ⟨rfl, hb1⟩; obtain ⟨hcb, _⟩ := bcell hb1; have c0 := (hcb q 0 hqs).trans c0; have cx0 := (hcb b o hbl).trans cx0; clear hcb)
      go_quiet (fail)
      go_wp2
      go_ret2
      exact ⟨rfl, below_drewN hb1 _⟩
    · rw [if_neg hneg] at cx hm
      obtain ⟨j, rfl⟩ := Int.eq_ofNat_of_zero_le (by omega : 0 ≤ i)
      simp only [Int.toNat_natCast] at cx hm
      go_enter Try.func20, Try.ntmps20
      go_wp2_with (go_at_call 21; refine HLen.out.mono ?_; rintro e w1 ⟨rfl, hb1⟩; obtain ⟨hcb, _⟩ := bcell hb1; have c0 := (hcb q 0 hqs).trans c0; have cx := (hcb b (o + j % n) hbl).trans cx; clear hcb)
      go_quiet (fail)
      go_wp2
      go_ret2
      exact ⟨rfl, below_drewN hb1 _⟩

theorem Try.slInt : SlT Try.prog 41 3 (.int .i64 0) 1 8 := ⟨Try.underlying41, by kernel_rfl, rfl, by decide⟩

theorem grown_block {w1 w2 : World} {o ob : Obj} {row : Option Nat} {q : Nat} (hg : (w1.alloc o).grownBy w2 row) (hq : w1.heap[q]? = some ob) (hne : row ≠ some q) : w2.heap[q]? = some ob := by
  have hl := block_lt hq
  rw [hg.block q (by simp; omega) (fun e => hne e.symm), Below.heap_alloc w1 o q hl]
  exact hq

/-- What an operation on a queue leaves: its answer, the queue as it is now, all else kept. -/
def QPost (w : World) (q : Nat) (g : Option Nat) (v : Value) (l' : List Int) (e : Ending) (w' : World) : Prop :=
  e = .returned v ∧ ∃ g', QAt w' q g' l' ∧ Keep (fun k => k = q ∨ g = some k) w w' ∧ (∀ k, g' = some k → g = some k ∨ w.heap.size ≤ k)

theorem ascii_push {s : ByteArray} (h : AllAscii s) : AllAscii (s ++ ⟨#[111]⟩) := by
  intro k hk
  have hsz : (s ++ ⟨#[111]⟩ : ByteArray).size = s.size + 1 := by simp [ByteArray.size_append]; rfl
  by_cases hlt : k < s.size
  · have e : (s ++ ⟨#[111]⟩ : ByteArray)[k]'hk = s[k]'hlt := ByteArray.getElem_append_left hlt
    rw [e]
    exact h k hlt
  · obtain rfl : k = s.size := by omega
    have e : (s ++ ⟨#[111]⟩ : ByteArray)[s.size]'hk = 111 := by
      rw [ByteArray.getElem_append_right (Nat.le_refl _)]
      simp
      rfl
    rw [e]
    decide

/-- The queue's two cells are stored anew: its row is another one. -/
theorem q_close {w w1 w2 : World} {q : Nat} {g : Option Nat} {ao a2 : Option Addr} {m cap c2 : Nat} {s s2 : ByteArray} {l2 : List Int} {v : Value}
    (hb1 : Below w.heap.size w w1) (hqs : q < w1.heap.size) (hg : g = (Value.slice ao m cap).ownBlock) (hne : g ≠ some q) (hq2 : w2.heap[q]? = some (.cells #[v, .string s] 74 (0, 0)))
    (ho2 : w2.ownsRow 0 3 1 (.slice a2 l2.length c2) l2.length (l2.map (Value.int .i64))) (hg2 : Keep (fun k => g = some k) w1 w2)
    (hw2 : (Value.slice a2 l2.length c2).ownBlock = g ∨ ∃ k, (Value.slice a2 l2.length c2).ownBlock = some k ∧ w1.heap.size ≤ k) (hs2 : s2.size = l2.length) (has2 : AllAscii s2) (u : Value) :
    QPost w q g u l2 (.returned u) ((w2.setCell ⟨q, 0, none⟩ (.slice a2 l2.length c2)).setCell ⟨q, 1, none⟩ (.string s2)) := by
  have hnq : (Value.slice a2 l2.length c2).ownBlock ≠ some q := by
    rcases hw2 with h | ⟨k, h, hk⟩
    · rw [h]; exact hne
    · rw [h]; intro e; cases e; omega
  have hk : Keep (fun k => k = q) w2 ((w2.setCell ⟨q, 0, none⟩ (.slice a2 l2.length c2)).setCell ⟨q, 1, none⟩ (.string s2)) := ((Keep.refl (fun k => k = q) w2).setCell (p := ⟨q, 0, none⟩) rfl _).setCell (p := ⟨q, 1, none⟩) rfl _
  have hs1 := hb1.size
  refine ⟨rfl, (Value.slice a2 l2.length c2).ownBlock, ⟨a2, c2, s2, ?_, hs2, has2, owns_keep ho2 hk (fun k hk' e => hnq (by rw [hk', e])), rfl, hnq⟩, ?_, ?_⟩
  · have h1 := heap_setCell_same w2 q 0 _ _ (.slice a2 l2.length c2) hq2
    exact heap_setCell_same _ q 1 _ _ (.string s2) h1
  · refine ((Keep.of_below hb1).then (T := fun k => g = some k) hg2 (fun i _ h => .inr h)).then hk (fun i _ h => .inl h)
  · intro j hj
    rcases hw2 with h | ⟨k, h, hk⟩
    · exact .inl (h.symm.trans hj)
    · rw [h] at hj
      cases hj
      exact .inr (by omega)

set_option maxRecDepth 100000 in
set_option maxHeartbeats 400000 in
theorem add_any (q : Nat) (g : Option Nat) (l : List Int) (a : Int) (w : World) (h : QAt w q g l) (hl : l.length ≤ 900000) :
    Calls Try.prog 19 #[.pointer (some ⟨q, 0, none⟩), .int .i64 a] w (QPost w q g (.bool (decide (a ∉ l))) (qAdd l a)) := by
  have h' := h
  have hf := find_any q g l a w h (by omega)
  have HF := hidP hf
  clear hf
  by_cases hin : a ∈ l
  · have hd : decide (a ∉ l) = false := by simp [hin]
    have hq : qAdd l a = l := by unfold qAdd; rw [if_pos hin]
    have hx : idxI l a = (l.idxOf a : Int) := by unfold idxI; rw [if_pos hin]
    rw [hd, hq]
    have hx0 : 0 ≤ idxI l a := by rw [hx]; omega
    clear hd hq hx h hin
    go_enter Try.func19, Try.ntmps19
    go_wp2_with (go_at_call 47; refine HF.out.mono ?_; rintro e w1 ⟨rfl, hb1⟩)
    go_ret
    exact ⟨rfl, g, h'.below hb1, .of_below hb1, fun k hk => .inl hk⟩
  · have hd : decide (a ∉ l) = true := by simp [hin]
    have hq : qAdd l a = l ++ [a] := by unfold qAdd; rw [if_neg hin]
    have hx : idxI l a = -1 := idxI_none hin
    rw [hx] at HF
    rw [hd, hq]
    clear hd hq hx hin h
    go_enter Try.func19, Try.ntmps19
    go_wp2_with (first | (go_at_call 47; refine HF.out.mono ?_; rintro e w1 ⟨rfl, hb1⟩; obtain ⟨ao, cap, s, hq, hs, has, ho, hg, hne⟩ := h'.below hb1; have c0 := block_cell hq 0; have c1 := block_cell hq 1; have f0 := frozen_of_row w1 q 0 _ _ hq; have f1 := frozen_of_row w1 q 1 _ _ hq; have hqs := block_lt hq; simp at c0 c1; have hsz : s.size ≤ 900000 := (by omega); have Hs := hidP hs; have Has := hidP has; have Hg := hidP hg; have Hne := hidP hne; have Hq := hidP hq; clear hs has hg hne hq) | (at_builtin; refine (wpList_app _ rfl (.tmp 17) (.tmp 19) rfl Try.slInt 0 (.slice ao l.length cap) l.length (l.map (Value.int .i64)) rfl (ho.alloc _) (some ⟨w1.heap.size, 0, none⟩) 1 1 [.int .i64 a] rfl (l.length + 1) rfl (RowAt.new w1 [.int .i64 a] _) rfl (by simp; rfl) (by omega) (by unfold maxLen; omega) (Nat.zero_le _) ?_); intro a2 c2 w2 ho2 hg2 hw2; have hq2 := grown_block hg2 Hq.out (by rw [← Hg.out]; exact Hne.out); have d0 := block_cell hq2 0; have d1 := block_cell hq2 1; have k0 := frozen_of_row w2 q 0 _ _ hq2; have k1 := frozen_of_row w2 q 1 _ _ hq2; simp at d0 d1; have HQ2 := hidP hq2; have HO2 := hidP ho2; have HG2 := hidP hg2; have HW2 := hidP hw2; clear hq2 ho2 hg2 hw2 c0 c1 f0 f1 ho))
    go_ret
    have hlen : (l ++ [a]).length = l.length + 1 := by simp
    have ho3 := HO2.out
    rw [← hlen] at ho3 ⊢
    refine q_close (ao := ao) (m := l.length) (cap := cap) hb1 hqs Hg.out Hne.out HQ2.out ?_ ?_ ?_ ?_ (ascii_push Has.out) _
    · rw [List.map_append]; exact ho3
    · exact (Keep.refl _ _ |>.alloc _).then (.of_grown HG2.out (fun k hk => Hg.out.trans hk)) (fun i _ h => h)
    · rcases HW2.out with h | h
      · left; rw [hlen, h]; exact Hg.out.symm
      · right; rw [hlen]; exact ⟨_, h, by simp⟩
    · rw [hlen, ByteArray.size_append, Hs.out]; rfl

theorem tape_setCells (b : Nat) : ∀ (vs : List Value) (o : Nat) (w : World), (w.setCells b o vs).tape = w.tape
  | [], _, _ => rfl
  | v :: vs, o, w => (tape_setCells b vs (o + 1) _).trans rfl
theorem size_setCells (b : Nat) : ∀ (vs : List Value) (o : Nat) (w : World), (w.setCells b o vs).heap.size = w.heap.size
  | [], _, _ => rfl
  | v :: vs, o, w => (size_setCells b vs (o + 1) _).trans (by simp [World.setCell])

/-- slices.Delete of one element of an owned row. -/
theorem delete_any (ao : Option Addr) (n cap i : Nat) (l : List Int) (w : World) (ho : w.ownsRow 0 3 1 (.slice ao n cap) n (l.map (Value.int .i64))) (hi : i < n) (hn : l.length = n) :
    Calls Try.prog 48 #[.slice ao n cap, .int .i64 i, .int .i64 (i + 1)] w fun e w' => e = .returned (.slice ao (n - 1) cap) ∧
      w'.ownsRow 0 3 1 (.slice ao (n - 1) cap) (n - 1) ((l.take i ++ l.drop (i + 1)).map (Value.int .i64)) ∧ Keep (fun k => (Value.slice ao n cap).ownBlock = some k) w w' := by
  obtain ⟨_, hx⟩ := ho
  rcases hx with ⟨_, h0⟩ | ⟨g, cap', cur, hv, hb, hg, h1, h2, h3, h4⟩
  · omega
  · cases hv
    have h2' : cap ≤ 9223372036854775807 := by unfold maxLen at h2; omega
    have hc : ∀ j, j < l.length → w.cell? ⟨g, 0 + j, none⟩ = some (.int .i64 (l.getD j 0)) := by
      intro j hj
      rw [Nat.zero_add, cell_of_row w g j cur _ (0, 0) hg]
      have e : cur.toList[j]? = (l.map (Value.int .i64))[j]? := by rw [← h4, List.getElem?_take, if_pos (by omega)]
      rw [← Array.getElem?_toList, e, List.getElem?_map, List.getD_eq_getElem?_getD, List.getElem?_eq_getElem hj]
      rfl
    refine (Try.slices_Delete_int_cells g 0 n cap i (i + 1) l w (by omega) h1 h2' (by omega) (by omega) hc (fun j _ => by rw [Nat.zero_add]; exact frozen_of_row w g j cur _ hg)).mono ?_
    rintro e w' ⟨rfl, nq, rfl⟩
    have hlen : ((((l.take n).take i ++ (l.take n).drop (i + 1) ++ List.replicate (i + 1 - i) 0).map (Value.int .i64)).length) = n := by
      simp; omega
    have hs := heap_setCells g 3 (((l.take n).take i ++ (l.take n).drop (i + 1) ++ List.replicate (i + 1 - i) 0).map (Value.int .i64)) 0 cur (w.drewN nq) hg (by rw [hlen]; omega)
    refine ⟨by rw [show n - (i + 1 - i) = n - 1 by omega], ⟨by simp; omega, .inr ⟨g, cap, _, rfl, hb, hs, by omega, h2, ?_, ?_⟩⟩, ?_⟩
    · simp only [List.size_toArray, List.length_append, List.length_take, List.length_drop, hlen]
      simp; omega
    · rw [List.take_of_length_le (by omega : l.length ≤ n)]
      simp only [List.take_zero, List.nil_append]
      rw [show i + 1 - i = 1 by omega, List.map_append, List.append_assoc, List.take_append_of_le_length (by simp; omega), List.take_of_length_le (by simp; omega)]
    · refine ⟨World.os_setCells _ _ _ _, ?_, World.output_setCells _ _ _ _, ?_, fun k hk hne => ?_⟩
      · rw [tape_setCells]; rfl
      · rw [size_setCells]; exact Nat.le_refl _
      · rw [World.heap_setCells_other _ _ _ _ (by simpa using hk) (fun e => hne (by simp [Value.ownBlock, e]))]
        rfl

theorem ascii_tail {s : ByteArray} (h : AllAscii s) : AllAscii (s.extract 1 s.size) := by
  intro k hk
  have hk' : k < s.size - 1 := by simpa using hk
  have e : (s.extract 1 s.size)[k]'hk = s[1 + k]'(by omega) := ByteArray.getElem_extract _
  rw [e]
  exact h _ _

set_option maxRecDepth 100000 in
set_option maxHeartbeats 400000 in
theorem remove_any (q : Nat) (g : Option Nat) (l : List Int) (a : Int) (w : World) (h : QAt w q g l) (hl : l.length ≤ 900000) :
    Calls Try.prog 22 #[.pointer (some ⟨q, 0, none⟩), .int .i64 a] w (QPost w q g (.bool (decide (a ∈ l))) (l.erase a)) := by
  have h' := h
  have hf := find_any q g l a w h (by omega)
  have HF := hidP hf
  clear hf
  by_cases hin : a ∈ l
  · have hd : decide (a ∈ l) = true := by simp [hin]
    have hx : idxI l a = (l.idxOf a : Int) := by unfold idxI; rw [if_pos hin]
    have hlt : l.idxOf a < l.length := List.idxOf_lt_length_of_mem hin
    rw [hx] at HF
    rw [hd, erase_at hin]
    generalize l.idxOf a = i at *
    clear hd hx h hin
    go_enter Try.func22, Try.ntmps22
    go_wp2_with (first | (go_at_call 47; refine HF.out.mono ?_; rintro e w1 ⟨rfl, hb1⟩; obtain ⟨ao, cap, s, hq, hs, has, ho, hg, hne⟩ := h'.below hb1; have c0 := block_cell hq 0; have c1 := block_cell hq 1; have f0 := frozen_of_row w1 q 0 _ _ hq; have f1 := frozen_of_row w1 q 1 _ _ hq; have hqs := block_lt hq; simp at c0 c1; have hsz : s.size ≤ 900000 := (by omega); have hs0 : 1 ≤ s.size := (by omega); have Hs := hidP hs; have Has := hidP has; have Hg := hidP hg; have Hne := hidP hne; have Hq := hidP hq; clear hs has hg hne hq))
    refine (delete_any ao l.length cap i l _ ho hlt rfl).mono ?_
    rintro e w2 ⟨rfl, ho2, hk2⟩
    have hq2 : w2.heap[q]? = some (.cells #[.slice ao l.length cap, .string s] 74 (0, 0)) := (hk2.block q hqs (fun e => Hne.out (Hg.out.trans e))).trans Hq.out
    have d0 := block_cell hq2 0
    have d1 := block_cell hq2 1
    have k0 := frozen_of_row w2 q 0 _ _ hq2
    have k1 := frozen_of_row w2 q 1 _ _ hq2
    simp at d0 d1
    have HQ2 := hidP hq2
    have HO2 := hidP ho2
    have HK2 := hidP hk2
    clear hq2 ho2 hk2 c0 c1 f0 f1 ho
    go_wp2
    go_ret
    have hlen : (l.take i ++ l.drop (i + 1)).length = l.length - 1 := by simp; omega
    have ho3 := HO2.out
    rw [← hlen] at ho3 ⊢
    refine q_close (ao := ao) (m := l.length) (cap := cap) hb1 hqs Hg.out Hne.out HQ2.out ho3 ?_ ?_ ?_ (ascii_tail Has.out) _
    · exact HK2.out.mono (fun k _ hk => Hg.out.trans hk)
    · left; rw [Hg.out]; cases ao <;> rfl
    · rw [hlen]; simp; rw [Hs.out]
  · have hd : decide (a ∈ l) = false := by simp [hin]
    have hx : idxI l a = -1 := idxI_none hin
    rw [hx] at HF
    rw [hd, List.erase_of_not_mem hin]
    clear hd hx hin h
    go_enter Try.func22, Try.ntmps22
    go_wp2_with (go_at_call 47; refine HF.out.mono ?_; rintro e w1 ⟨rfl, hb1⟩)
    go_ret
    exact ⟨rfl, g, h'.below hb1, .of_below hb1, fun k hk => .inl hk⟩
end Go.Proofs.Ytjjfemhpdhkolaa
