/-
  The walk over package code's written.
-/
import Derived.Test.YtoflhfiegfhkoaaDoorKEnv
import Derived.Test.YtoflhfiegfhkoaaDoorShelf2
import Derived.Shelf.Strings.Builder1
import Derived.Test.YtoflhfiegfhkoaaDoorKRWr2
import Derived.Test.YtoflhfiegfhkoaaDoorXText
import Derived.Lib.ItoaLen
import Derived.Lib.AppendIntMem
namespace Go.Proofs.YtoflhfiegfhkoaaDoor
open Go.RowKit Go.Proofs.YtoflhfiegfhkoaaDoorW.PrintWords
set_option linter.unusedVariables false
set_option linter.unusedSimpArgs false

theorem Tryd.sizeB : (Tryd.prog.info? 67).map (fun i => i.size) = some 2 := by kernel_rfl
theorem Tryd.infoByte : (Tryd.prog.info? 5).map (fun i => (i.zero, i.size, i.bytes)) = some (some (.int .u8 0), 1, 1) := by kernel_rfl

set_option maxRecDepth 100000 in
set_option maxHeartbeats 1000000 in
theorem copy_used (b : Nat) (w : World) (h0 : w.cell? ⟨b, 0, none⟩ = some (.pointer (some ⟨b, 0, none⟩))) :
    Calls Tryd.prog 62 #[.pointer (some ⟨b, 0, none⟩)] w fun e w' => e = .returned (.tuple #[]) ∧ w' = w := by
  obtain ⟨j, hj, _⟩ := Option.map_eq_some_iff.1 Tryd.sizeB
  go_enter Tryd.func62, Tryd.ntmps62
  go_wp2
  rw [Lib.run_neq_ptr_same w _ Tryd.underlying65 hj]
  go_wp2
  go_end0
  exact ⟨rfl, rfl⟩

set_option maxRecDepth 100000 in
set_option maxHeartbeats 1000000 in
theorem copy_fresh (b : Nat) (w : World) (h0 : w.cell? ⟨b, 0, none⟩ = some (.pointer none)) (hsh : w.shape? b = some (67, 2)) (hfz : w.frozen? ⟨b, 0, none⟩ = false) :
    Calls Tryd.prog 62 #[.pointer (some ⟨b, 0, none⟩)] w fun e w' => e = .returned (.tuple #[]) ∧ w' = w.setCell ⟨b, 0, none⟩ (.pointer (some ⟨b, 0, none⟩)) := by
  obtain ⟨j, hj, hjs⟩ := Option.map_eq_some_iff.1 Tryd.sizeB
  go_enter Tryd.func62, Tryd.ntmps62
  go_wp2
  rw [Lib.run_to_unsafe w ⟨b, 0, none⟩ Tryd.underlying65 Tryd.underlying119 hj (by rw [hjs]; decide) hsh (Nat.zero_lt_succ 1)]
  simp only [Result.andThen]
  rw [Oper.upon_value]
  go_wp2
  rw [run_callFunc_extern Tryd.func85 (by kernel_rfl) (by kernel_rfl) (by kernel_rfl) (e := Extern.AbiNoEscape.same) (by kernel_rfl)]
  rw [Lib.run_noEscape]
  simp only [Result.andThen]
  rw [Oper.upon_value]
  go_wp2
  rw [Lib.run_from_unsafe w ⟨b, 0, none⟩ Tryd.underlying119 Tryd.underlying65 hj hsh (by kernel_rfl)]
  simp only [Result.andThen]
  rw [Oper.upon_value]
  go_wp2
  go_end0
  exact ⟨rfl, rfl⟩
/-- A block that is no row of bytes. -/
def NB (o : Obj) : Prop := ∀ cs fr, o ≠ .cells cs 5 fr
/-- Every block but b that is no row of bytes stands as it stood. -/
def KeepNB (b : Nat) (w w' : World) : Prop := ∀ (k : Nat) (o : Obj), w.heap[k]? = some o → k ≠ b → NB o → w'.heap[k]? = some o
theorem KeepNB.trans {b : Nat} {w w1 w2 : World} (h : KeepNB b w w1) (k : KeepNB b w1 w2) : KeepNB b w w2 := fun i o hi hb hn => k i o (h i o hi hb hn) hb hn
theorem KeepNB.refl (b : Nat) (w : World) : KeepNB b w w := fun _ _ h _ _ => h
theorem keepNB_grown {b B n : Nat} {w w1 w2 : World} {v : Value} {bs : List Value} (hk : ∀ (k : Nat) (o : Obj), w.heap[k]? = some o → w1.heap[k]? = some o) (hown : w.ownsRow B 5 1 v n bs) (hg : w1.grownBy w2 v.ownBlock) (u : Value) : KeepNB b w (w2.setCell ⟨b, 1, none⟩ u) := by
  intro k o hk1 hkb hn
  rw [Below.heap_setCell _ _ _ _ hkb]
  have h1 := hk k o hk1
  rw [hg.block k (Array.getElem?_eq_some_iff.1 h1).1 (fun e => ?_)]
  · exact h1
  · rcases hown.2 with ⟨rfl, _⟩ | ⟨g, cap, cur, rfl, _, hgg, _⟩
    · simp [Value.ownBlock] at e
    · simp [Value.ownBlock] at e
      subst e
      rw [hgg] at hk1
      exact hn _ _ (Option.some.inj hk1).symm
theorem copy_any (B b : Nat) (bs : List Value) (w : World) (h : Lib.IsBuilder 67 5 B b bs w) :
    Calls Tryd.prog 62 #[.pointer (some ⟨b, 0, none⟩)] w fun e w' => e = .returned (.tuple #[]) ∧ (Lib.BuilderAt 67 5 B b (.pointer (some ⟨b, 0, none⟩)) bs w' ∧ Below B w w' ∧ KeepNB b w w') := by
  rcases h with h | h
  · refine (copy_fresh b w h.cell0 h.shape h.frozen0).mono ?_
    rintro e w' ⟨rfl, rfl⟩
    exact ⟨rfl, h.used _, (Below.refl B w).setCell (p := ⟨b, 0, none⟩) h.1 _, fun k o hk hb _ => by rw [Below.heap_setCell _ _ _ _ hb]; exact hk⟩
  · refine (copy_used b w h.cell0).mono ?_
    rintro e w' ⟨rfl, rfl⟩
    exact ⟨rfl, h, Below.refl B _, KeepNB.refl _ _⟩

set_option maxRecDepth 100000 in
set_option maxHeartbeats 2000000 in
theorem bwrite_any (B b : Nat) (bs : List Value) (s : ByteArray) (w : World) (h : Lib.IsBuilder 67 5 B b bs w) (hlen : bs.length + s.size ≤ 140737488355328) (hBw : B ≤ w.heap.size) :
    Calls Tryd.prog 39 #[.pointer (some ⟨b, 0, none⟩), .string s] w fun e w' => e = .returned (.tuple #[.int .i64 s.size, .nilIface]) ∧ (Lib.IsBuilder 67 5 B b (bs ++ Lib.strCells s) w' ∧ Below B w w' ∧ KeepNB b w w') := by
  obtain ⟨i0, hi, hz0, hz1, hz2⟩ := info_parts Tryd.infoByte
  have hcc := copy_any B b bs w h
  have HCC := hidP hcc
  clear hcc h
  go_enter Tryd.func39, Tryd.ntmps39
  go_wp2_with fail
  refine HCC.out.mono ?_
  rintro e w1 ⟨rfl, h1, hb1, hk1⟩
  obtain ⟨hB, v, hbk, hown, hne⟩ := h1
  have c0 : w1.cell? ⟨b, 0, none⟩ = some (.pointer (some ⟨b, 0, none⟩)) := by rw [Lib.cell_of_heap hbk]; rfl
  have c1 : w1.cell? ⟨b, 1, none⟩ = some v := by rw [Lib.cell_of_heap hbk]; rfl
  go_wp2_with (at_builtin; refine Lib.wpList_append_own_string _ rfl _ _ 47 9 rfl B 5 i0 Tryd.underlying47 Tryd.underlying9 hi hz0 hz1 hz2 _ _ _ rfl hown s rfl ?c3 ?c4 ?c5 ?_)
  case c3 => unfold maxLen; omega
  case c4 => omega
  case c5 => have := hb1.size; omega
  intro v' w2 hown' hgrow _
  have hlt : b < w1.heap.size := by
    rcases Nat.lt_or_ge b w1.heap.size with h' | h'
    · exact h'
    · simp [Array.getElem?_eq_none h'] at hbk
  have hb2 : w2.heap[b]? = some (.cells #[.pointer (some ⟨b, 0, none⟩), v] 67 (0, 0)) := by
    rw [hgrow.block b hlt (fun e => hne e.symm)]
    exact hbk
  have d0 : w2.cell? ⟨b, 0, none⟩ = some (.pointer (some ⟨b, 0, none⟩)) := by rw [Lib.cell_of_heap hb2]; rfl
  have d1 : w2.cell? ⟨b, 1, none⟩ = some v := by rw [Lib.cell_of_heap hb2]; rfl
  have f1 : w2.frozen? ⟨b, 1, none⟩ = false := Lib.frozen_of_heap hb2 1
  obtain ⟨ao, n', cap, rfl⟩ : ∃ ao n' cap, v' = .slice ao n' cap := by
    rcases hown'.2 with ⟨hv, _⟩ | ⟨g, cap, cur, hv, _⟩
    · exact ⟨_, _, _, hv⟩
    · exact ⟨_, _, _, hv⟩
  go_wp2
  go_ret2
  refine ⟨rfl, ?_, ?_, hk1.trans (keepNB_grown (fun _ _ h => h) hown hgrow _)⟩
  · exact .inr (Lib.BuilderAt.put (T := 67) (e := 5) hB hb2 (bs' := bs ++ Lib.strCells s) (by simpa [Lib.strCells_length] using hown') (by decide))
  · exact (hb1.grown hgrow (by have := hb1.size; omega) (fun k hk => (hown.lt k hk).1)).setCell (p := ⟨b, 1, none⟩) hB _

set_option maxRecDepth 100000 in
set_option maxHeartbeats 2000000 in
theorem brune_any (B b : Nat) (bs : List Value) (r : Int) (hr0 : -2147483648 ≤ r) (hr1 : r ≤ 2147483647) (w : World) (h : Lib.IsBuilder 67 5 B b bs w) (hlen : bs.length + 4 ≤ 140737488355328) (hBw : B ≤ w.heap.size) :
    Calls Tryd.prog 42 #[.pointer (some ⟨b, 0, none⟩), .int .i32 r] w fun e w' => (∃ n, e = .returned (.tuple #[.int .i64 n, .nilIface])) ∧ (Lib.IsBuilder 67 5 B b (bs ++ Lib.runeCells r) w' ∧ Below B w w' ∧ KeepNB b w w') := by
  have hcc := copy_any B b bs w h
  have HCC := hidP hcc
  clear hcc h
  go_enter Tryd.func42, Tryd.ntmps42
  go_wp2_with fail
  refine HCC.out.mono ?_
  rintro e w1 ⟨rfl, h1, hb1, hk1⟩
  obtain ⟨hB, v, hbk, hown, hne⟩ := h1
  obtain ⟨ao, cap, rfl⟩ : ∃ ao cap, v = .slice ao bs.length cap := by
    rcases hown.2 with ⟨hv, h0⟩ | ⟨g, cap, cur, hv, _⟩
    · exact ⟨none, 0, by rw [hv, h0]⟩
    · exact ⟨_, _, hv⟩
  have c0 : w1.cell? ⟨b, 0, none⟩ = some (.pointer (some ⟨b, 0, none⟩)) := by rw [Lib.cell_of_heap hbk]; rfl
  have c1 : w1.cell? ⟨b, 1, none⟩ = some (.slice ao bs.length cap) := by rw [Lib.cell_of_heap hbk]; rfl
  have har := Tryd.utf8_AppendRune_plain B (.slice ao bs.length cap) bs.length bs r hr0 hr1 w1 hown hlen (by have := hb1.size; omega)
  have HAR := hidP har
  obtain ⟨n, hn⟩ : ∃ n, bs.length = n := ⟨_, rfl⟩
  have HN := hidP hn
  have hlt : b < w1.heap.size := by
    rcases Nat.lt_or_ge b w1.heap.size with h' | h'
    · exact h'
    · simp [Array.getElem?_eq_none h'] at hbk
  have HBK := hidP hbk
  have HOWN := hidP hown
  have HNE := hidP hne
  rw [hn] at c1
  have HAR2 := hidP (hn ▸ HAR.out)
  clear har hbk hown hne hn
  go_wp2_with fail
  refine HAR2.out.mono ?_
  rintro e w2 ⟨v', rfl, hown', o, hgrow⟩
  obtain ⟨rl, hrl⟩ : ∃ rl, (Lib.runeCells r).length = rl := ⟨_, rfl⟩
  rw [hrl] at hown'
  have HRL := hidP hrl
  have hgb : (w1.alloc o).heap[b]? = some (.cells #[.pointer (some ⟨b, 0, none⟩), .slice ao n cap] 67 (0, 0)) := by
    rw [Lib.alloc_old w1 _ b hlt, HBK.out, HN.out]
  have hb2 : w2.heap[b]? = some (.cells #[.pointer (some ⟨b, 0, none⟩), .slice ao n cap] 67 (0, 0)) := by
    rw [hgrow.block b (by simp; omega) (fun e => HNE.out (by rw [HN.out]; exact e.symm))]
    exact hgb
  have d0 : w2.cell? ⟨b, 0, none⟩ = some (.pointer (some ⟨b, 0, none⟩)) := by rw [Lib.cell_of_heap hb2]; rfl
  have d1 : w2.cell? ⟨b, 1, none⟩ = some (.slice ao n cap) := by rw [Lib.cell_of_heap hb2]; rfl
  have f1 : w2.frozen? ⟨b, 1, none⟩ = false := Lib.frozen_of_heap hb2 1
  obtain ⟨ao', cap', rfl⟩ : ∃ ao' cap', v' = .slice ao' (n + rl) cap' := by
    rcases hown'.2 with ⟨hv, h0⟩ | ⟨g, cap, cur, hv, _⟩
    · exact ⟨none, 0, by rw [hv, h0]⟩
    · exact ⟨_, _, hv⟩
  have hput := Lib.BuilderAt.put (T := 67) (e := 5) hB hb2 (bs' := bs ++ Lib.runeCells r) (by rw [List.length_append, HN.out, hrl]; exact hown') (by decide)
  have hbel : Below B w w2 := ((hb1.alloc (by have := hb1.size; omega) _).grown hgrow (by have := hb1.size; simp; omega) (fun k hk => by have := (HOWN.out.lt k (by rw [HN.out]; exact hk)).1; omega))
  have hsz2 := hb1.size
  have e1 : w2.setCell ⟨b, 1, none⟩ (.slice ao' (n + rl) cap') = w2.setCell ⟨b, 1, none⟩ (.slice ao' (n + rl) cap') := rfl
  have g1 : (w2.setCell ⟨b, 1, none⟩ (.slice ao' (n + rl) cap')).cell? ⟨b, 1, none⟩ = some (.slice ao' (n + rl) cap') := (blk_cell (blk_set hb2 1 _) 1).trans rfl
  have HPUT := hidP hput
  have HKN := hidP (hk1.trans (keepNB_grown (b := b) (fun k o' h => (Lib.alloc_old w1 o k (Array.getElem?_eq_some_iff.1 h).1).trans h) (v := .slice ao n cap) (B := B) (n := n) (bs := bs) (by have h := HOWN.out; rw [HN.out] at h; exact h) hgrow (.slice ao' (n + rl) cap')))
  have HBEL := hidP hbel
  have HOWN2 := hidP hown'
  clear hrl hgb hb2 hput hbel hown' e1
  go_wp2
  go_ret2
  exact ⟨⟨_, rfl⟩, .inr HPUT.out, HBEL.out.setCell (p := ⟨b, 1, none⟩) hB _, HKN.out⟩
end Go.Proofs.YtoflhfiegfhkoaaDoor
namespace Go.Proofs.YtoflhfiegfhkoaaDoor
open Go.RowKit Go.Proofs.YtoflhfiegfhkoaaDoorW.PrintWords
set_option linter.unusedVariables false
set_option linter.unusedSimpArgs false

def formP (Ps : List (List Nat)) (i : Int) : List Nat := if i < 1 ∨ (Ps.length : Int) < i then [] else Ps.getD (i - 1).toNat []

set_option maxRecDepth 100000 in
set_option maxHeartbeats 1600000 in
theorem form_any {all : ByteArray} {Ps : List (List Nat)} (hf : FieldsOf all Ps) (i : Int) (w : World) (htab : Blanks w) :
    Calls Tryd.prog 41 #[.string all, .int .i64 i] w fun e w' => e = .returned (.string (strA (formP Ps i))) ∧ Below w.heap.size w w' := by
  have hfl := Tryd.strings_Fields_laid all w (by have := hf.size; omega) hf.asc htab
  rw [hf.eq, hf.len] at hfl
  have HF := hidP hf
  have hfew := hf.few
  obtain ⟨E, hE⟩ : ∃ E, formP Ps i = E := ⟨_, rfl⟩
  rw [hE]
  have HE := hidP hE
  obtain ⟨N, hN⟩ : ∃ N, Ps.length = N := ⟨_, rfl⟩
  rw [hN] at hfl hfew
  have HN := hidP hN
  clear hf hE hN htab
  go_enter Tryd.func41, Tryd.ntmps41
  go_wp2_with fail
  refine hfl.mono ?_
  rintro e w1 ⟨rfl, rfl⟩
  have hrow := RowAt.new w (Ps.map fun P => Value.string (strA P)) 9
  have hb0 := bnew (brefl w) (.cells (Ps.map fun P => Value.string (strA P)).toArray 9)
  generalize w.alloc (.cells (Ps.map fun P => Value.string (strA P)).toArray 9) = w1 at *
  clear hfl
  by_cases h1 : i < 1
  · have hE : E = [] := by rw [← HE.out]; unfold formP; rw [if_pos (.inl h1)]
    subst hE
    go_wp2
    go_ret
    exact ⟨rfl, hb0⟩
  · by_cases hN : (N : Int) < i
    · have hE : E = [] := by rw [← HE.out]; unfold formP; rw [if_pos (.inr (by rw [HN.out]; exact hN))]
      subst hE
      go_wp2
      go_ret
      exact ⟨rfl, hb0⟩
    · obtain ⟨k, rfl⟩ : ∃ k : Nat, i = (k : Int) + 1 := ⟨(i - 1).toNat, by omega⟩
      have hk : k < N := by omega
      obtain ⟨P, hP⟩ : ∃ P, Ps[k]? = some P := ⟨_, List.getElem?_eq_getElem (by rw [HN.out]; exact hk)⟩
      have cx : w1.cell? ⟨w.heap.size, 0 + k, none⟩ = some (.string (strA P)) := hrow.some k _ (by rw [List.getElem?_map, hP]; rfl)
      rw [Nat.zero_add] at cx
      have hE : E = P := by
        rw [← HE.out]
        unfold formP
        rw [if_neg (by rw [HN.out]; omega), show ((k : Int) + 1 - 1).toNat = k by omega, List.getD_eq_getElem?_getD, hP]
        rfl
      subst hE
      have t1 : ¬ (k : Int) + 1 < 1 := by omega
      have t2 : ¬ (N : Int) < (k : Int) + 1 := by omega
      have t3 : (k : Int) < (N : Int) := by omega
      have t4 : decide ((N : Int) < (k : Int) + 1) = false := decide_eq_false t2
      clear hP h1 hN
      go_wp2
      go_ret
      exact ⟨rfl, hb0⟩

/-- What a form's sign stands for, but the first. -/
def sgnW (a b n : Int) (c : Nat) : List Nat := if c = 97 then [letterN a] else if c = 98 then [letterN b] else if c = 78 ∨ c = 68 then decN n.toNat else [c]
def wrF (a b n : Int) : List Nat → List Nat
  | [] => []
  | c :: F => c :: F.flatMap (sgnW a b n)
def bytesC (T : List Nat) : List Value := Lib.byteCells (T.map UInt8.ofNat)
theorem bytesC_app (S T : List Nat) : bytesC (S ++ T) = bytesC S ++ bytesC T := by unfold bytesC Lib.byteCells; simp
theorem bytesC_len (T : List Nat) : (bytesC T).length = T.length := by unfold bytesC; rw [Lib.byteCells_length, List.length_map]
theorem strCells_strA (T : List Nat) : Lib.strCells (strA T) = bytesC T := rfl
theorem runeCells_asc (c : Nat) (h : c < 128) : Lib.runeCells (c : Int) = bytesC [c] := by
  unfold Lib.runeCells bytesC Lib.byteCells
  rw [Lib.encodeRuneZ_one (by omega) (by omega)]
  simp
  omega
def PartPost (w : World) (a b n : Int) (F : List Nat) (e : Ending) (w' : World) : Prop := ∃ t : List Nat, e = .returned (.string (strA t)) ∧ t.length ≤ 21 * F.length ∧ ((0 ≤ a ∧ a < 6) → (0 ≤ b ∧ b < 6) → 0 ≤ n → t = wrF a b n F) ∧ Below w.heap.size w w'
theorem itoa_dec {n : Int} (h : 0 ≤ n) : (⟨(Lib.itoa n).toArray⟩ : ByteArray) = strA (decN n.toNat) := by
  obtain ⟨m, rfl⟩ : ∃ m : Nat, n = m := ⟨n.toNat, by omega⟩
  rw [strA_decN, Int.toNat_natCast]
  unfold decB
  rw [Lib.itoa_nonneg]
end Go.Proofs.YtoflhfiegfhkoaaDoor
namespace Go.Proofs.YtoflhfiegfhkoaaDoor
open Go.RowKit Go.Proofs.YtoflhfiegfhkoaaDoorW.PrintWords
set_option linter.unusedVariables false
set_option linter.unusedSimpArgs false

theorem builder_below {B b : Nat} {bs : List Value} {w w' : World} (h : Lib.IsBuilder 67 5 B b bs w) (hb : Below w.heap.size w w') : Lib.IsBuilder 67 5 B b bs w' := by
  have key : ∀ {p}, Lib.BuilderAt 67 5 B b p bs w → Lib.BuilderAt 67 5 B b p bs w' := by
    rintro p ⟨h1, v, h2, ⟨h3, h4⟩, h5⟩
    refine ⟨h1, v, ?_, ⟨h3, ?_⟩, h5⟩
    · rw [hb.block b (Array.getElem?_eq_some_iff.1 h2).1]; exact h2
    · rcases h4 with h4 | ⟨g, cap, cur, e1, e2, e3, e4⟩
      · exact .inl h4
      · exact .inr ⟨g, cap, cur, e1, e2, by rw [hb.block g (Array.getElem?_eq_some_iff.1 e3).1]; exact e3, e4⟩
  rcases h with h | h
  · exact .inl (key h)
  · exact .inr (key h)

theorem builder_iter {B b it pos : Nat} {bs : List Value} {s : ByteArray} {w w' : World} (h : Lib.IsBuilder 67 5 B b bs w) (hit : w.heap[it]? = some (.stringIter s pos)) (hb : Keep (· = it) w w') : Lib.IsBuilder 67 5 B b bs w' := by
  have stand : ∀ (g : Nat) (cs : Array Value) (t : TypeId) (fr : Nat × Nat), w.heap[g]? = some (.cells cs t fr) → w'.heap[g]? = some (.cells cs t fr) := by
    intro g cs t fr hg
    rw [hb.block g (Array.getElem?_eq_some_iff.1 hg).1 (fun e => ?_)]
    · exact hg
    · have e : g = it := e
      subst e
      rw [hit] at hg
      cases hg
  have key : ∀ {p}, Lib.BuilderAt 67 5 B b p bs w → Lib.BuilderAt 67 5 B b p bs w' := by
    rintro p ⟨h1, v, h2, ⟨h3, h4⟩, h5⟩
    refine ⟨h1, v, stand _ _ _ _ h2, ⟨h3, ?_⟩, h5⟩
    rcases h4 with h4 | ⟨g, cap, cur, e1, e2, e3, e4⟩
    · exact .inl h4
    · exact .inr ⟨g, cap, cur, e1, e2, stand _ _ _ _ e3, e4⟩
  rcases h with h | h
  · exact .inl (key h)
  · exact .inr (key h)

/-! ### what is written of a form -/
def nmN (r : Int) : Nat := if 0 ≤ r ∧ r ≤ 5 then (97 + r).toNat else 0
theorem nmN_int (r : Int) : (nameR r).1 = (nmN r : Int) := by
  unfold nameR nmN
  split
  · simp; omega
  · rfl
theorem nmN_lt (r : Int) : nmN r < 128 := by
  unfold nmN
  split <;> omega
def itN (n : Int) : List Nat := (Lib.itoa n).map (·.toNat)
theorem itN_str (n : Int) : (⟨(Lib.itoa n).toArray⟩ : ByteArray) = strA (itN n) := by
  unfold strA itN
  rw [List.map_map]
  congr 2
  conv => lhs; rw [← List.map_id (Lib.itoa n)]
  apply List.map_congr_left
  intro x _
  simp
theorem itN_len (n : Int) (h0 : -9223372036854775808 ≤ n) (h1 : n ≤ 9223372036854775807) : (itN n).length ≤ 21 := by
  unfold itN
  rw [List.length_map]
  exact Lib.itoa_length_le n h0 h1
def sgP (a b n : Int) (i c : Nat) : List Nat := if 0 < i ∧ c = 97 then [nmN a] else if 0 < i ∧ c = 98 then [nmN b] else if c = 78 ∨ c = 68 then itN n else [c]
def wrP (a b n : Int) : Nat → List Nat → List Nat
  | _, [] => []
  | i, c :: r => sgP a b n i c ++ wrP a b n (i + 1) r
theorem sgP_len (a b n : Int) (i c : Nat) (h0 : -9223372036854775808 ≤ n) (h1 : n ≤ 9223372036854775807) : (sgP a b n i c).length ≤ 21 := by
  have := itN_len n h0 h1
  unfold sgP
  split
  · simp
  · split
    · simp
    · split
      · exact this
      · simp
theorem wrP_len (a b n : Int) (h0 : -9223372036854775808 ≤ n) (h1 : n ≤ 9223372036854775807) (F : List Nat) : ∀ i, (wrP a b n i F).length ≤ 21 * F.length := by
  induction F with
  | nil => intro i; simp [wrP]
  | cons c r ih =>
    intro i
    have h2 := ih (i + 1)
    have h3 := sgP_len a b n i c h0 h1
    simp only [wrP, List.length_append, List.length_cons]
    omega
theorem drop_chr {F : List Nat} {j : Nat} (h : j < F.length) : F.drop j = chr F j :: F.drop (j + 1) := by
  rw [List.drop_eq_getElem_cons h]
  unfold chr
  rw [List.getD_eq_getElem?_getD, List.getElem?_eq_getElem h]
  rfl
theorem wrP_step {F T E : List Nat} {a b n : Int} {j : Nat} (h : j < F.length) (e : T ++ wrP a b n j (F.drop j) = E) : (T ++ sgP a b n j (chr F j)) ++ wrP a b n (j + 1) (F.drop (j + 1)) = E := by
  rw [drop_chr h] at e
  rw [← e, List.append_assoc]
  rfl
theorem isb_cast {B b : Nat} {bs cs : List Value} {w : World} (h : Lib.IsBuilder 67 5 B b bs w) (e : bs = cs) : Lib.IsBuilder 67 5 B b cs w := e ▸ h
theorem nb_iter (s : ByteArray) (pos : Nat) : NB (.stringIter s pos) := by intro cs fr e; cases e

/-- What holds at each round of written's loop. -/
structure WrAt (w : World) (a b n : Int) (F : List Nat) (j : Nat) (wr : World) : Prop where
  le : j ≤ F.length
  it : wr.heap[w.heap.size + 1 + 1]? = some (.stringIter (strA F) j)
  box : wr.heap[w.heap.size]? = some (.cells #[.int .i64 a, .int .i64 b, .int .i64 n] 75)
  bel : Below w.heap.size w wr
  text : ∃ T : List Nat, Lib.IsBuilder 67 5 (w.heap.size + 1) (w.heap.size + 1) (bytesC T) wr ∧ T ++ wrP a b n j (F.drop j) = wrP a b n 0 F ∧ T.length ≤ 21 * j
theorem WrAt.start (w : World) (a b n : Int) (F : List Nat) : WrAt w a b n F 0 (((w.alloc (.cells #[.int .i64 a, .int .i64 b, .int .i64 n] 75)).alloc (.cells #[.pointer none, .slice none 0 0] 67)).iter (strA F) 0) := by
  have hs1 : (w.alloc (.cells #[.int .i64 a, .int .i64 b, .int .i64 n] 75)).heap.size = w.heap.size + 1 := by simp
  have hs2 : ((w.alloc (.cells #[.int .i64 a, .int .i64 b, .int .i64 n] 75)).alloc (.cells #[.pointer none, .slice none 0 0] 67)).heap.size = w.heap.size + 1 + 1 := by simp
  have hf := Lib.fresh_isBuilder 67 5 (w.alloc (.cells #[.int .i64 a, .int .i64 b, .int .i64 n] 75))
  rw [hs1] at hf
  have hbi := below_iter ((w.alloc (.cells #[.int .i64 a, .int .i64 b, .int .i64 n] 75)).alloc (.cells #[.pointer none, .slice none 0 0] 67)) (strA F) 0
  refine ⟨Nat.zero_le _, ?_, ?_, bstep (bnew (bnew (brefl w) _) _) hbi, [], ?_, rfl, Nat.zero_le _⟩
  · have := World.iter_heap ((w.alloc (.cells #[.int .i64 a, .int .i64 b, .int .i64 n] 75)).alloc (.cells #[.pointer none, .slice none 0 0] 67)) (strA F) 0
    rw [hs2] at this
    exact this
  · rw [hbi.block _ (by rw [hs2]; omega), Lib.alloc_old _ _ _ (by rw [hs1]; omega)]
    exact heap_alloc_new w _
  · exact builder_below hf hbi

theorem WrAt.next {w w6 w7 : World} {a b n : Int} {F T : List Nat} {j C : Nat} {bs : List Value} (hn0 : -9223372036854775808 ≤ n) (hn1 : n ≤ 9223372036854775807) (hj : j < F.length)
    (hit : w6.heap[w.heap.size + 1 + 1]? = some (.stringIter (strA F) (j + 1)))
    (hbox : w6.heap[w.heap.size]? = some (.cells #[.int .i64 a, .int .i64 b, .int .i64 n] 75))
    (hb : Below w.heap.size w w6) (hE : (T ++ sgP a b n j C) ++ wrP a b n (j + 1) (F.drop (j + 1)) = wrP a b n 0 F) (hTl : T.length ≤ 21 * j)
    (hT : Lib.IsBuilder 67 5 (w.heap.size + 1) (w.heap.size + 1) bs w7) (ebs : bs = bytesC (T ++ sgP a b n j C))
    (hb7 : Below (w.heap.size + 1) w6 w7) (hk7 : KeepNB (w.heap.size + 1) w6 w7) :
    WrAt w a b n F (j + 1) w7 ∧ F.length - w7.iterPos (w.heap.size + 1 + 1) = F.length - (j + 1) := by
  subst ebs
  have hit7 := hk7 _ _ hit (by omega) (nb_iter _ _)
  have hsz := (Array.getElem?_eq_some_iff.1 hbox).1
  refine ⟨⟨hj, hit7, ?_, hb.trans (hb7.mono (by omega)), _, hT, hE, ?_⟩, ?_⟩
  · rw [hb7.block _ (by omega)]
    exact hbox
  · have := sgP_len a b n j C hn0 hn1
    rw [List.length_append]
    omega
  · unfold World.iterPos
    rw [hit7]
theorem name_nm (r : Int) (w : World) :
    Calls Tryd.prog 63 #[.int .i64 r] w fun e w' => e = .returned (.tuple #[.int .i32 (nmN r), .bool (nameR r).2]) ∧ Below w.heap.size w w' := by
  rw [← nmN_int]
  exact name_any r w
theorem sg_a {a b n : Int} {j : Nat} (h : 0 < j) : sgP a b n j 97 = [nmN a] := by unfold sgP; rw [if_pos ⟨h, rfl⟩]
theorem sg_b {a b n : Int} {j : Nat} (h : 0 < j) : sgP a b n j 98 = [nmN b] := by unfold sgP; rw [if_neg (by omega), if_pos ⟨h, rfl⟩]
theorem sg_n {a b n : Int} {j C : Nat} (h : C = 78 ∨ C = 68) : sgP a b n j C = itN n := by unfold sgP; rw [if_neg (by omega), if_neg (by omega), if_pos h]
theorem sg_c {a b n : Int} {j C : Nat} (h : ¬ (0 < j ∧ C = 97)) (h2 : ¬ (0 < j ∧ C = 98)) (h3 : ¬ (C = 78 ∨ C = 68)) : sgP a b n j C = [C] := by unfold sgP; rw [if_neg h, if_neg h2, if_neg h3]

set_option maxRecDepth 100000 in
set_option maxHeartbeats 4000000 in
theorem written_any {F : List Nat} (hasc : ∀ x ∈ F, x < 128) (hlen : F.length ≤ 1000) (a b n : Int) (hn0 : -9223372036854775808 ≤ n) (hn1 : n ≤ 9223372036854775807) (w : World) (htab : Pow10 w) :
    Calls Tryd.prog 40 #[.string (strA F), .agg #[.int .i64 a, .int .i64 b, .int .i64 n]] w fun e w' => e = .returned (.string (strA (wrP a b n 0 F))) ∧ Below w.heap.size w w' := by
  have hst := WrAt.start w a b n F
  have HTAB := hidP htab
  clear htab
  go_enter Tryd.func40, Tryd.ntmps40
  go_wp2
  generalize ((w.alloc (.cells #[.int .i64 a, .int .i64 b, .int .i64 n] 75)).alloc (.cells #[.pointer none, .slice none 0 0] 67)).iter (strA F) 0 = w1 at *
  go_loopw [] (fun wx => ∃ j : Nat, WrAt w a b n F j wx) (fun wx => F.length - wx.iterPos (w.heap.size + 1 + 1))
  case atStart => exact ⟨0, hst⟩
  case round =>
    clear hst
    obtain ⟨j, hle, hit, hbox, hb, T, hT, hE, hTl⟩ := hrel
    obtain ⟨w3, e3⟩ : ∃ w3, w3 = wr := ⟨_, rfl⟩
    subst e3
    by_cases hjl : j < F.length
    · obtain ⟨w4, hnx, hit4, hk4⟩ := Tryd.next_strA hit hjl hasc
      have hb4 : Below w.heap.size w w4 := ⟨hk4.os.trans hb.os, hk4.tape.trans hb.tape, hk4.output.trans hb.output, Nat.le_trans hb.size hk4.size, fun i hi => (hk4.block i (by have := hb.size; omega) (show ¬ i = w.heap.size + 1 + 1 by omega)).trans (hb.block i hi)⟩
      have hT4 := builder_iter hT hit hk4
      have hbox4 : w4.heap[w.heap.size]? = some (.cells #[.int .i64 a, .int .i64 b, .int .i64 n] 75) := by
        rw [hk4.block _ (Array.getElem?_eq_some_iff.1 hbox).1 (show ¬ w.heap.size = w.heap.size + 1 + 1 by omega)]
        exact hbox
      have mx : F.length - (j + 1) < F.length - w3.iterPos (w.heap.size + 1 + 1) := by
        have e2 : w3.iterPos (w.heap.size + 1 + 1) = j := by unfold World.iterPos; rw [hit]
        omega
      have hE2 := wrP_step hjl hE
      have hClt := chr_lt hasc j
      obtain ⟨C, hC⟩ : ∃ C, chr F j = C := ⟨_, rfl⟩
      rw [hC] at hnx hE2 hClt
      have HE := hidP hE2
      have HI := hidP hit4
      have MX := hidP mx
      have HJL := hidP hjl
      have hjs : j < 1000 := by omega
      have ca : w4.cell? ⟨w.heap.size, 0, none⟩ = some (.int .i64 a) := (blk_cell hbox4 0).trans rfl
      have hna := name_nm a w4
      obtain ⟨na, hna1⟩ : ∃ x, nmN a = x := ⟨_, rfl⟩
      have hnal := nmN_lt a
      rw [hna1] at hna hnal
      have HNA := hidP hna1
      have HT := hidP hT4
      have HX := hidP hbox4
      have HB := hidP hb4
      clear hit hbox hb hT hE hE2 hit4 hk4 mx hC hna1 hT4 hbox4 hb4 hjl
      go_wp2_with fail
      refine hna.mono ?_
      rintro e w5 ⟨rfl, hb5⟩
      clear hna
      have hx5 : w5.heap[w.heap.size]? = some (.cells #[.int .i64 a, .int .i64 b, .int .i64 n] 75) := (hb5.block _ (Array.getElem?_eq_some_iff.1 HX.out).1).trans HX.out
      have cb : w5.cell? ⟨w.heap.size, 1, none⟩ = some (.int .i64 b) := (blk_cell hx5 1).trans rfl
      have hnb := name_nm b w5
      obtain ⟨nb, hnb1⟩ : ∃ x, nmN b = x := ⟨_, rfl⟩
      have hnbl := nmN_lt b
      rw [hnb1] at hnb hnbl
      have HNB := hidP hnb1
      have HX5 := hidP hx5
      clear hnb1 hx5
      go_wp2_with fail
      refine hnb.mono ?_
      rintro e w6 ⟨rfl, hb6⟩
      clear hnb
      have HB46 := hidP (bstep hb5 hb6)
      have HI6 : Hid (w6.heap[w.heap.size + 1 + 1]? = some (.stringIter (strA F) (j + 1))) := hidP ((HB46.out.block _ (Array.getElem?_eq_some_iff.1 HI.out).1).trans HI.out)
      have hx6 : w6.heap[w.heap.size]? = some (.cells #[.int .i64 a, .int .i64 b, .int .i64 n] 75) := (hb6.block _ (Array.getElem?_eq_some_iff.1 HX5.out).1).trans HX5.out
      have cn : w6.cell? ⟨w.heap.size, 2, none⟩ = some (.int .i64 n) := (blk_cell hx6 2).trans rfl
      have HX6 := hidP hx6
      have HB6 := hidP (bstep HB.out HB46.out)
      have HT6 := hidP (builder_below HT.out HB46.out)
      have hsz6 : w.heap.size + 1 + 1 < w6.heap.size := (Array.getElem?_eq_some_iff.1 HI6.out).1
      clear hx6 hb5 hb6
      by_cases hj0 : j = 0
      · subst hj0
        by_cases c78 : C = 78
        · have t1 : (((C : Nat) : Int) == 78) = true := by simp [c78]
          have hio := Tryd.strconv_Itoa n hn0 hn1 w6 (HTAB.out.below (HB6.out))
          go_wp2_with fail
          refine hio.mono ?_
          rintro e w7 ⟨rfl, kk, os, e7⟩
          have hb67 : Below w6.heap.size w6 w7 := by rw [e7]; exact Lib.below_grow _ _ (Nat.le_refl _) _ _
          clear e7 hio
          have hbw := bwrite_any (w.heap.size + 1) (w.heap.size + 1) (bytesC T) ⟨(Lib.itoa n).toArray⟩ w7 (builder_below HT6.out hb67) (by rw [bytesC_len, itN_str, strA_size]; have := itN_len n hn0 hn1; omega) (by have := hb67.size; omega)
          go_wp2_with fail
          refine hbw.mono ?_
          rintro e w8 ⟨rfl, hT8, hb8, hk8⟩
          have HN := hidP (WrAt.next (C := C) hn0 hn1 HJL.out ((hb67.block _ (by omega)).trans HI6.out) ((hb67.block _ (by omega)).trans HX6.out) (bstep HB6.out hb67) HE.out hTl hT8 (by rw [itN_str, strCells_strA, ← bytesC_app, sg_n (.inl c78)]) hb8 hk8)
          clear hbw hT8 hb8 hk8
          go_wp2
          go_roundw
          case rel => exact ⟨_, HN.out.1⟩
          case measure => rw [HN.out.2]; exact MX.out
        · have t1 : (((C : Nat) : Int) == 78) = false := by simp; omega
          by_cases c68 : C = 68
          · have t2 : (((C : Nat) : Int) == 68) = true := by simp [c68]
            have hio := Tryd.strconv_Itoa n hn0 hn1 w6 (HTAB.out.below (HB6.out))
            go_wp2_with fail
            refine hio.mono ?_
            rintro e w7 ⟨rfl, kk, os, e7⟩
            have hb67 : Below w6.heap.size w6 w7 := by rw [e7]; exact Lib.below_grow _ _ (Nat.le_refl _) _ _
            clear e7 hio
            have hbw := bwrite_any (w.heap.size + 1) (w.heap.size + 1) (bytesC T) ⟨(Lib.itoa n).toArray⟩ w7 (builder_below HT6.out hb67) (by rw [bytesC_len, itN_str, strA_size]; have := itN_len n hn0 hn1; omega) (by have := hb67.size; omega)
            go_wp2_with fail
            refine hbw.mono ?_
            rintro e w8 ⟨rfl, hT8, hb8, hk8⟩
            have HN := hidP (WrAt.next (C := C) hn0 hn1 HJL.out ((hb67.block _ (by omega)).trans HI6.out) ((hb67.block _ (by omega)).trans HX6.out) (bstep HB6.out hb67) HE.out hTl hT8 (by rw [itN_str, strCells_strA, ← bytesC_app, sg_n (.inr c68)]) hb8 hk8)
            clear hbw hT8 hb8 hk8
            go_wp2
            go_roundw
            case rel => exact ⟨_, HN.out.1⟩
            case measure => rw [HN.out.2]; exact MX.out
          · have t2 : (((C : Nat) : Int) == 68) = false := by simp; omega
            have hbr := brune_any (w.heap.size + 1) (w.heap.size + 1) (bytesC T) ((C : Nat) : Int) (by omega) (by omega) w6 HT6.out (by rw [bytesC_len]; omega) (by omega)
            go_wp2_with fail
            refine hbr.mono ?_
            rintro e w7 ⟨⟨rn, rfl⟩, hT7, hb7, hk7⟩
            have HN := hidP (WrAt.next (C := C) hn0 hn1 HJL.out HI6.out HX6.out HB6.out HE.out hTl hT7 (by rw [runeCells_asc _ (by omega), ← bytesC_app]; rw [sg_c (by omega) (by omega) (by omega)]) hb7 hk7)
            clear hbr hT7 hb7 hk7
            go_wp2
            go_roundw
            case rel => exact ⟨_, HN.out.1⟩
            case measure => rw [HN.out.2]; exact MX.out
      · have t0 : (0 : Int) < (j : Int) := by omega
        by_cases c97 : C = 97
        · have t1 : (((C : Nat) : Int) == 97) = true := by simp [c97]
          have hbr := brune_any (w.heap.size + 1) (w.heap.size + 1) (bytesC T) ((na : Nat) : Int) (by omega) (by omega) w6 HT6.out (by rw [bytesC_len]; omega) (by omega)
          go_wp2_with fail
          refine hbr.mono ?_
          rintro e w7 ⟨⟨rn, rfl⟩, hT7, hb7, hk7⟩
          have HN := hidP (WrAt.next (C := C) hn0 hn1 HJL.out HI6.out HX6.out HB6.out HE.out hTl hT7 (by rw [runeCells_asc _ (by omega), ← bytesC_app]; rw [c97, sg_a (by omega), HNA.out]) hb7 hk7)
          clear hbr hT7 hb7 hk7
          go_wp2
          go_roundw
          case rel => exact ⟨_, HN.out.1⟩
          case measure => rw [HN.out.2]; exact MX.out
        · have t1 : (((C : Nat) : Int) == 97) = false := by simp; omega
          by_cases c98 : C = 98
          · have t2 : (((C : Nat) : Int) == 98) = true := by simp [c98]
            have hbr := brune_any (w.heap.size + 1) (w.heap.size + 1) (bytesC T) ((nb : Nat) : Int) (by omega) (by omega) w6 HT6.out (by rw [bytesC_len]; omega) (by omega)
            go_wp2_with fail
            refine hbr.mono ?_
            rintro e w7 ⟨⟨rn, rfl⟩, hT7, hb7, hk7⟩
            have HN := hidP (WrAt.next (C := C) hn0 hn1 HJL.out HI6.out HX6.out HB6.out HE.out hTl hT7 (by rw [runeCells_asc _ (by omega), ← bytesC_app]; rw [c98, sg_b (by omega), HNB.out]) hb7 hk7)
            clear hbr hT7 hb7 hk7
            go_wp2
            go_roundw
            case rel => exact ⟨_, HN.out.1⟩
            case measure => rw [HN.out.2]; exact MX.out
          · have t2 : (((C : Nat) : Int) == 98) = false := by simp; omega
            by_cases c78 : C = 78
            · have t3 : (((C : Nat) : Int) == 78) = true := by simp [c78]
              have hio := Tryd.strconv_Itoa n hn0 hn1 w6 (HTAB.out.below (HB6.out))
              go_wp2_with fail
              refine hio.mono ?_
              rintro e w7 ⟨rfl, kk, os, e7⟩
              have hb67 : Below w6.heap.size w6 w7 := by rw [e7]; exact Lib.below_grow _ _ (Nat.le_refl _) _ _
              clear e7 hio
              have hbw := bwrite_any (w.heap.size + 1) (w.heap.size + 1) (bytesC T) ⟨(Lib.itoa n).toArray⟩ w7 (builder_below HT6.out hb67) (by rw [bytesC_len, itN_str, strA_size]; have := itN_len n hn0 hn1; omega) (by have := hb67.size; omega)
              go_wp2_with fail
              refine hbw.mono ?_
              rintro e w8 ⟨rfl, hT8, hb8, hk8⟩
              have HN := hidP (WrAt.next (C := C) hn0 hn1 HJL.out ((hb67.block _ (by omega)).trans HI6.out) ((hb67.block _ (by omega)).trans HX6.out) (bstep HB6.out hb67) HE.out hTl hT8 (by rw [itN_str, strCells_strA, ← bytesC_app, sg_n (.inl c78)]) hb8 hk8)
              clear hbw hT8 hb8 hk8
              go_wp2
              go_roundw
              case rel => exact ⟨_, HN.out.1⟩
              case measure => rw [HN.out.2]; exact MX.out
            · have t3 : (((C : Nat) : Int) == 78) = false := by simp; omega
              by_cases c68 : C = 68
              · have t4 : (((C : Nat) : Int) == 68) = true := by simp [c68]
                have hio := Tryd.strconv_Itoa n hn0 hn1 w6 (HTAB.out.below (HB6.out))
                go_wp2_with fail
                refine hio.mono ?_
                rintro e w7 ⟨rfl, kk, os, e7⟩
                have hb67 : Below w6.heap.size w6 w7 := by rw [e7]; exact Lib.below_grow _ _ (Nat.le_refl _) _ _
                clear e7 hio
                have hbw := bwrite_any (w.heap.size + 1) (w.heap.size + 1) (bytesC T) ⟨(Lib.itoa n).toArray⟩ w7 (builder_below HT6.out hb67) (by rw [bytesC_len, itN_str, strA_size]; have := itN_len n hn0 hn1; omega) (by have := hb67.size; omega)
                go_wp2_with fail
                refine hbw.mono ?_
                rintro e w8 ⟨rfl, hT8, hb8, hk8⟩
                have HN := hidP (WrAt.next (C := C) hn0 hn1 HJL.out ((hb67.block _ (by omega)).trans HI6.out) ((hb67.block _ (by omega)).trans HX6.out) (bstep HB6.out hb67) HE.out hTl hT8 (by rw [itN_str, strCells_strA, ← bytesC_app, sg_n (.inr c68)]) hb8 hk8)
                clear hbw hT8 hb8 hk8
                go_wp2
                go_roundw
                case rel => exact ⟨_, HN.out.1⟩
                case measure => rw [HN.out.2]; exact MX.out
              · have t4 : (((C : Nat) : Int) == 68) = false := by simp; omega
                have hbr := brune_any (w.heap.size + 1) (w.heap.size + 1) (bytesC T) ((C : Nat) : Int) (by omega) (by omega) w6 HT6.out (by rw [bytesC_len]; omega) (by omega)
                go_wp2_with fail
                refine hbr.mono ?_
                rintro e w7 ⟨⟨rn, rfl⟩, hT7, hb7, hk7⟩
                have HN := hidP (WrAt.next (C := C) hn0 hn1 HJL.out HI6.out HX6.out HB6.out HE.out hTl hT7 (by rw [runeCells_asc _ (by omega), ← bytesC_app]; rw [sg_c (by omega) (by omega) (by omega)]) hb7 hk7)
                clear hbr hT7 hb7 hk7
                go_wp2
                go_roundw
                case rel => exact ⟨_, HN.out.1⟩
                case measure => rw [HN.out.2]; exact MX.out
    · have hnx := fun ty => Lib.run_next_end_at (P := Tryd.prog) w3 (w.heap.size + 1 + 1) (strA F) j ty hit (by rw [strA_size]; exact hjl)
      have hTT : T = wrP a b n 0 F := by
        rw [List.drop_eq_nil_of_le (by omega)] at hE
        simpa [wrP] using hE
      have HTT := hidP hTT
      have hsz : w.heap.size + 1 + 1 < w3.heap.size := (Array.getElem?_eq_some_iff.1 hit).1
      have hbs := Tryd.Builder_String_any (w.heap.size + 1) (w.heap.size + 1) (T.map UInt8.ofNat) w3 hT (by omega)
      have HB := hidP hb
      clear hit hbox hb hT hE hTT
      go_wp2_with fail
      refine hbs.mono ?_
      rintro e w7 ⟨rfl, hb7⟩
      go_wp2
      go_ret
      exact ⟨by rw [← HTT.out]; rfl, HB.out.trans (hb7.mono (by omega))⟩
end Go.Proofs.YtoflhfiegfhkoaaDoor
