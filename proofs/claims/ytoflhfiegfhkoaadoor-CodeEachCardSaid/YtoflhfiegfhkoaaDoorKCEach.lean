/-
  The walk over the law CodeEach.
-/
import Derived.Test.YtoflhfiegfhkoaaDoorKCTells
import Derived.Test.YtoflhfiegfhkoaaDoorKCEachP
import Derived.Test.YtoflhfiegfhkoaaDoorKRegs
import Derived.BigRegion
namespace Go.Proofs.YtoflhfiegfhkoaaDoor
open Go.RowKit Go.Proofs.YtoflhfiegfhkoaaDoorW.PrintWords
set_option linter.unusedVariables false
set_option linter.unusedSimpArgs false

def eOps : List Int := [1, 2, 3, 4, 5, 6, 7, 8, 9, 10, 11, 12, 13, 14, 15, 16, 17, 18, 19, 20, 22]
def eSigns : ByteArray := { data := #[61, 60, 43, 109, 115, 114, 99, 108, 107, 103, 106, 122, 111, 116, 98, 117, 119, 112, 113, 102, 120] }
theorem e_form (K : Nat) (h : K < 21) : ∃ f, rforms[K]? = some f ∧ f ∈ rforms := ⟨rforms[K]'h, List.getElem?_eq_getElem h, List.getElem_mem _⟩
theorem e_ops : ∀ K < 21, eOps[K]? = (rforms[K]?).map fun f => (f.op : Int) := by
  intro K hK
  have : ∀ K : Fin 21, eOps[K.val]? = (rforms[K.val]?).map fun f => (f.op : Int) := by decide
  exact this ⟨K, hK⟩
theorem e_signs : ∀ K < 21, some (eSigns.extract K (K + 1)) = (rforms[K]?).map fun f => strA [f.letter] := by
  intro K hK
  have : ∀ K : Fin 21, some (eSigns.extract K.val (K.val + 1)) = (rforms[K.val]?).map fun f => strA [f.letter] := by decide +kernel
  exact this ⟨K, hK⟩

theorem e_ab {f : RForm} (hf : f ∈ rforms) (e : f.args = [97, 98]) {A B N : Nat} (hA : A < 6) (hB : B < 6) : rW (eX f A B N) = [f.letter] ++ [97 + A] ++ [97 + B] := by
  rw [eX_line hf]
  have h1 : (eX f A B N).a = (A : Int) := by unfold eX; rw [e]; rfl
  have h2 : (eX f A B N).b = (B : Int) := by unfold eX; rw [e]; rfl
  rw [e]
  simp [argW, h1, h2, letter_of hA, letter_of hB]
theorem e_aN {f : RForm} (hf : f ∈ rforms) (e : f.args = [97, 78]) {A B N : Nat} (hA : A < 6) : rW (eX f A B N) = [f.letter] ++ [97 + A] ++ decN N := by
  rw [eX_line hf]
  have h1 : (eX f A B N).a = (A : Int) := by unfold eX; rw [e]; rfl
  have h2 : (eX f A B N).n = (N : Int) := by unfold eX; rw [e]; rfl
  rw [e]
  simp [argW, h1, h2, letter_of hA]
theorem e_N {f : RForm} (hf : f ∈ rforms) (e : f.args = [78]) {A B N : Nat} : rW (eX f A B N) = [f.letter] ++ decN N := by
  rw [eX_line hf]
  have h2 : (eX f A B N).n = (N : Int) := by unfold eX; rw [e]; rfl
  rw [e]
  simp [argW, h2]
theorem e_a {f : RForm} (hf : f ∈ rforms) (e : f.args = [97]) {A B N : Nat} (hA : A < 6) : rW (eX f A B N) = [f.letter] ++ [97 + A] := by
  rw [eX_line hf]
  have h1 : (eX f A B N).a = (A : Int) := by unfold eX; rw [e]; rfl
  rw [e]
  simp [argW, h1, letter_of hA]
theorem e_na {f : RForm} (hf : f ∈ rforms) (e : f.args = [110, 97]) {A B N : Nat} (hA : A < 6) : rW (eX f A B N) = [f.letter] ++ decN (N % 10) ++ [97 + A] := by
  rw [eX_line hf]
  have h1 : (eX f A B N).a = (A : Int) := by unfold eX; rw [e]; rfl
  have h2 : (eX f A B N).n = ((N % 10 : Nat) : Int) := by unfold eX; rw [e]; rfl
  rw [e]
  have h3 : (eX f A B N).n.toNat = N % 10 := by rw [h2]; rfl
  simp [argW, h1, h3, letter_of hA]
theorem e_no {f : RForm} (hf : f ∈ rforms) (e : f.args = []) {A B N : Nat} : rW (eX f A B N) = [f.letter] := by
  rw [eX_line hf, e]
  rfl
def cutSet (op : Int) : Bool := op == 1 || op == 4 || op == 12 || op == 14 || op == 20 || op == 19 || op == 10 || op == 11
def cutB (op : Int) (m N : Nat) : Bool := decide (m = 0) || (cutSet op && decide (9 < N))
theorem cut_no {f : RForm} (hf : f ∈ rforms) {A B N m : Nat} (h : cutB f.op m N = false) : m ≠ 0 ∧ (eX f A B N).n ≤ 9 := by
  unfold cutB at h
  simp only [Bool.or_eq_false_iff, Bool.and_eq_false_iff, decide_eq_false_iff_not] at h
  refine ⟨h.1, ?_⟩
  have hset : ∀ f ∈ rforms, f.args.contains 78 = true → cutSet (f.op : Int) = true := by decide
  show (if f.args.contains 78 then (N : Int) else if f.args.contains 110 then ((N % 10 : Nat) : Int) else 0) ≤ 9
  by_cases h78 : f.args.contains 78 = true
  · rw [if_pos h78]
    rcases h.2 with h2 | h2
    · rw [hset f hf h78] at h2; cases h2
    · omega
  · rw [if_neg h78]
    split <;> omega
def eCells (x : InstrD) : Array Value := #[.int .i64 x.op, .int .i64 x.a, .int .i64 x.b, .int .i64 x.n, .slice none 0 0]

set_option maxRecDepth 100000 in
set_option maxHeartbeats 6400000 in
theorem codeEach_any (o a b n : Int) (w : World) (he : EnvK w) :
    Calls Tryd.prog 10 #[.int .i64 o, .int .i64 a, .int .i64 b, .int .i64 n] w fun e w' => e = .returned (.bool true) ∧ Below w.heap.size w w' := by
  obtain ⟨K, hK1, hK2, hK3⟩ := modK o 21 (by omega) (by omega)
  obtain ⟨A, hA1, hA2, hA3⟩ := modK a 6 (by omega) (by omega)
  obtain ⟨B, hB1, hB2, hB3⟩ := modK b 6 (by omega) (by omega)
  obtain ⟨N, hN1, hN2, hN3⟩ := modK n 10000 (by omega) (by omega)
  have hK1' : (IntKind.u64.wrap o).tmod 21 = (K : Int) := hK1
  have hA1' : (IntKind.u64.wrap a).tmod 6 = (A : Int) := hA1
  have hB1' : (IntKind.u64.wrap b).tmod 6 = (B : Int) := hB1
  have hN1' : (IntKind.u64.wrap n).tmod 10000 = (N : Int) := hN1
  obtain ⟨f, hf1, hf⟩ := e_form K hK2
  have hop := e_ops K hK2
  have hsg := e_signs K hK2
  rw [hf1] at hop hsg
  have hsg2 := Option.some.inj hsg
  have HF1 := hidP hf1
  have HF := hidP hf
  have HEN := hidP he
  have HSG := hidP hsg2
  have HOP := hidP hop
  clear hf1 hf he hsg hsg2 hop hK1 hA1 hB1 hN1
  go_enter Tryd.func10, Tryd.ntmps10
  go_upto_region 2 with fail
  generalize hw1 : w.alloc _ = w1
  have hn1 : w1.heap[w.heap.size]? = some (.cells (eOps.map (Value.int .i64)).toArray 3 (0, 0)) := by rw [← hw1]; exact blk_new w _
  have hb1 : Below w.heap.size w w1 := by rw [← hw1]; exact bnew (brefl w) _
  have hc1 : w1.cell? ⟨w.heap.size, K, none⟩ = some (.int .i64 f.op) := (blk_cell hn1 K).trans (by
    rw [List.getElem?_toArray, List.getElem?_map, HOP.out]; rfl)
  have kK : (K : Int) < 21 := by omega
  have aw : IntKind.u8.wrap (A : Int) = (A : Int) := by rw [IntKind.wrap_u8]; omega
  have bw : IntKind.u8.wrap (B : Int) = (B : Int) := by rw [IntKind.wrap_u8]; omega
  have aw2 : IntKind.u8.wrap (97 + (A : Int)) = 97 + (A : Int) := by rw [IntKind.wrap_u8]; omega
  have bw2 : IntKind.u8.wrap (97 + (B : Int)) = 97 + (B : Int) := by rw [IntKind.wrap_u8]; omega
  obtain ⟨op, hop⟩ : ∃ op : Int, (f.op : Int) = op := ⟨_, rfl⟩
  rw [hop] at hc1
  have HO := hidP hop
  have hsg : eSigns.extract K (K + 1) = strA [f.letter] := HSG.out
  unfold eSigns at hsg
  obtain ⟨SG, hSG⟩ : ∃ SG, strA [f.letter] = SG := ⟨_, rfl⟩
  rw [hSG] at hsg
  have HSGG := hidP hSG
  clear hw1 hn1 hop hSG
  go_upto_region 7 with fail
  generalize hw2 : w1.alloc _ = w2
  have hn2 : w2.heap[w1.heap.size]? = some (.cells #[.int .i64 op, .int .i64 0, .int .i64 0, .int .i64 0, .slice none 0 0] 37 (0, 0)) := by rw [← hw2]; exact blk_new w1 _
  have hb2 : Below w.heap.size w w2 := by rw [← hw2]; exact bnew hb1 _
  have hcv : ∀ (X : Nat), X < 6 → ∀ (w' : World) (b c : Nat), w'.cell? ⟨b, 0, none⟩ = some (.int .u8 (97 + (X : Int))) → (convert 47 9 (.slice (some ⟨b, 0, none⟩) 1 c)).run Tryd.prog w' = .ok (.string (strA [97 + X])) w' := by
    intro X hX w' b c h
    exact conv_one (97 + X) (by omega) b c w' (by rw [h]; simp)
  have hcvA := hcv A hA2
  have hcvB := hcv B hB2
  clear hcv hw2 hc1 hsg
  go_cut [14, 15] (fun v14 v15 wx => v14 = .string (strA [97 + A]) ∧ v15 = .string (strA [97 + B]) ∧ Below w2.heap.size w2 wx)
  case first =>
    clear hb1 hb2 hn2
    go_region
    all_goals
      go_wp2
      go_meet
      exact ⟨rfl, rfl, (bnew (bnew (brefl _) _) _).drew⟩
  case rest =>
  obtain ⟨rfl, rfl, hb3⟩ := hcut
  have hB3 := bstep hb2 hb3
  have hn3 := blk_below hn2 hb3
  generalize wc = w3 at *
  clear hb2 hb3 hn2 hcvA hcvB
  obtain ⟨x0, x1, x2, x3, x4⟩ := five_cells hn3
  have hl3 := blk_lt hn3
  have hdg := fun w' => rdigits_any (N : Int) (by unfold inI; omega) w'
  obtain ⟨T, hT⟩ : ∃ T, N % 10 = T := ⟨_, rfl⟩
  have hT1 : (N : Int) % 10 = (T : Int) := by omega
  have hT2 : (N : Int).tmod 10 = (T : Int) := by rw [Int.tmod_eq_emod_of_nonneg (by omega)]; exact hT1
  have hT3 : T < 10 := by omega
  have HT := hidP hT
  have hdg10 := fun w' => rdigits_any (T : Int) (by unfold inI; omega) w'
  have f1 := blk_frozen hn3 1
  have f2 := blk_frozen hn3 2
  have f3 := blk_frozen hn3 3
  have hle := hb1.size
  have sA : (strA [97 + A]).size = 1 := strA_size _
  have sB : (strA [97 + B]).size = 1 := strA_size _
  have sG : SG.size = 1 := by rw [← HSGG.out]; exact strA_size _
  have sN : (strA (decN N)).size ≤ 4 := by rw [strA_size]; exact decN_len4 N hN2
  have sT : (strA (decN T)).size ≤ 4 := by rw [strA_size]; exact decN_len4 T (by omega)
  clear hT
  have HD := hidP hdg
  have HD10 := hidP hdg10
  have HN3 := hidP hn3
  have HB3 := hidP hB3
  clear hdg hdg10 hn3 hB3
  go_upto_block 0 with fail
  go_cut [13] (fun v13 wx => v13 = .string (strA (rW (eX f A B N))) ∧ Hid (wx.heap[w1.heap.size]? = some (.cells (eCells (eX f A B N)) 37 (0, 0))) ∧ Below w.heap.size w wx)
  case first =>
    have hk : K = 0 ∨ K = 1 ∨ K = 2 ∨ K = 3 ∨ K = 4 ∨ K = 5 ∨ K = 6 ∨ K = 7 ∨ K = 8 ∨ K = 9 ∨ K = 10 ∨ K = 11 ∨ K = 12 ∨ K = 13 ∨ K = 14 ∨ K = 15 ∨ K = 16 ∨ K = 17 ∨ K = 18 ∨ K = 19 ∨ K = 20 := by omega
    rcases hk with hk | hk | hk | hk | hk | hk | hk | hk | hk | hk | hk | hk | hk | hk | hk | hk | hk | hk | hk | hk | hk
    · as_aux_lemma =>
        have hff := HF1.out
        rw [hk] at hff
        have hop := HO.out
        rw [← Option.some.inj hff] at hop
        dsimp only at hop
        subst hop
        have hargs : f.args = [97, 78] := by rw [← Option.some.inj hff]
        have HAR := hidP hargs
        have HFF := hidP (Option.some.inj hff).symm
        clear hff hargs hk
        go_wp2_with fail
        refine (HD.out _).mono ?_
        rintro e w4 ⟨t, rfl, _, ht, hb4⟩
        obtain rfl := ht (by omega)
        clear ht
        go_wp2_with fail
        go_meet
        exact ⟨congrArg Value.string (by rw [← HSGG.out, strA_app, strA_app, e_aN HF.out HAR.out hA2]), (blk_below (blk_set (blk_set HN3.out 1 _) 3 _) hb4).trans (by rw [HFF.out]; rfl), bstep ((HB3.out.setCell hle _).setCell hle _) hb4⟩
    · as_aux_lemma =>
        have hff := HF1.out
        rw [hk] at hff
        have hop := HO.out
        rw [← Option.some.inj hff] at hop
        dsimp only at hop
        subst hop
        have hargs : f.args = [97, 98] := by rw [← Option.some.inj hff]
        have HAR := hidP hargs
        have HFF := hidP (Option.some.inj hff).symm
        clear hff hargs hk
        go_wp2_with fail
        go_meet
        exact ⟨congrArg Value.string (by rw [← HSGG.out, strA_app, strA_app, e_ab HF.out HAR.out hA2 hB2]), (blk_set (blk_set HN3.out 1 _) 2 _).trans (by rw [HFF.out]; rfl), (HB3.out.setCell hle _).setCell hle _⟩
    · as_aux_lemma =>
        have hff := HF1.out
        rw [hk] at hff
        have hop := HO.out
        rw [← Option.some.inj hff] at hop
        dsimp only at hop
        subst hop
        have hargs : f.args = [97, 98] := by rw [← Option.some.inj hff]
        have HAR := hidP hargs
        have HFF := hidP (Option.some.inj hff).symm
        clear hff hargs hk
        go_wp2_with fail
        go_meet
        exact ⟨congrArg Value.string (by rw [← HSGG.out, strA_app, strA_app, e_ab HF.out HAR.out hA2 hB2]), (blk_set (blk_set HN3.out 1 _) 2 _).trans (by rw [HFF.out]; rfl), (HB3.out.setCell hle _).setCell hle _⟩
    · as_aux_lemma =>
        have hff := HF1.out
        rw [hk] at hff
        have hop := HO.out
        rw [← Option.some.inj hff] at hop
        dsimp only at hop
        subst hop
        have hargs : f.args = [97, 78] := by rw [← Option.some.inj hff]
        have HAR := hidP hargs
        have HFF := hidP (Option.some.inj hff).symm
        clear hff hargs hk
        go_wp2_with fail
        refine (HD.out _).mono ?_
        rintro e w4 ⟨t, rfl, _, ht, hb4⟩
        obtain rfl := ht (by omega)
        clear ht
        go_wp2_with fail
        go_meet
        exact ⟨congrArg Value.string (by rw [← HSGG.out, strA_app, strA_app, e_aN HF.out HAR.out hA2]), (blk_below (blk_set (blk_set HN3.out 1 _) 3 _) hb4).trans (by rw [HFF.out]; rfl), bstep ((HB3.out.setCell hle _).setCell hle _) hb4⟩
    · as_aux_lemma =>
        have hff := HF1.out
        rw [hk] at hff
        have hop := HO.out
        rw [← Option.some.inj hff] at hop
        dsimp only at hop
        subst hop
        have hargs : f.args = [97, 98] := by rw [← Option.some.inj hff]
        have HAR := hidP hargs
        have HFF := hidP (Option.some.inj hff).symm
        clear hff hargs hk
        go_wp2_with fail
        go_meet
        exact ⟨congrArg Value.string (by rw [← HSGG.out, strA_app, strA_app, e_ab HF.out HAR.out hA2 hB2]), (blk_set (blk_set HN3.out 1 _) 2 _).trans (by rw [HFF.out]; rfl), (HB3.out.setCell hle _).setCell hle _⟩
    · as_aux_lemma =>
        have hff := HF1.out
        rw [hk] at hff
        have hop := HO.out
        rw [← Option.some.inj hff] at hop
        dsimp only at hop
        subst hop
        have hargs : f.args = [97, 98] := by rw [← Option.some.inj hff]
        have HAR := hidP hargs
        have HFF := hidP (Option.some.inj hff).symm
        clear hff hargs hk
        go_wp2_with fail
        go_meet
        exact ⟨congrArg Value.string (by rw [← HSGG.out, strA_app, strA_app, e_ab HF.out HAR.out hA2 hB2]), (blk_set (blk_set HN3.out 1 _) 2 _).trans (by rw [HFF.out]; rfl), (HB3.out.setCell hle _).setCell hle _⟩
    · as_aux_lemma =>
        have hff := HF1.out
        rw [hk] at hff
        have hop := HO.out
        rw [← Option.some.inj hff] at hop
        dsimp only at hop
        subst hop
        have hargs : f.args = [97] := by rw [← Option.some.inj hff]
        have HAR := hidP hargs
        have HFF := hidP (Option.some.inj hff).symm
        clear hff hargs hk
        go_wp2_with fail
        go_meet
        exact ⟨congrArg Value.string (by rw [← HSGG.out, strA_app, e_a HF.out HAR.out hA2]), (blk_set HN3.out 1 _).trans (by rw [HFF.out]; rfl), HB3.out.setCell hle _⟩
    · as_aux_lemma =>
        have hff := HF1.out
        rw [hk] at hff
        have hop := HO.out
        rw [← Option.some.inj hff] at hop
        dsimp only at hop
        subst hop
        have hargs : f.args = [97, 98] := by rw [← Option.some.inj hff]
        have HAR := hidP hargs
        have HFF := hidP (Option.some.inj hff).symm
        clear hff hargs hk
        go_wp2_with fail
        go_meet
        exact ⟨congrArg Value.string (by rw [← HSGG.out, strA_app, strA_app, e_ab HF.out HAR.out hA2 hB2]), (blk_set (blk_set HN3.out 1 _) 2 _).trans (by rw [HFF.out]; rfl), (HB3.out.setCell hle _).setCell hle _⟩
    · as_aux_lemma =>
        have hff := HF1.out
        rw [hk] at hff
        have hop := HO.out
        rw [← Option.some.inj hff] at hop
        dsimp only at hop
        subst hop
        have hargs : f.args = [97, 98] := by rw [← Option.some.inj hff]
        have HAR := hidP hargs
        have HFF := hidP (Option.some.inj hff).symm
        clear hff hargs hk
        go_wp2_with fail
        go_meet
        exact ⟨congrArg Value.string (by rw [← HSGG.out, strA_app, strA_app, e_ab HF.out HAR.out hA2 hB2]), (blk_set (blk_set HN3.out 1 _) 2 _).trans (by rw [HFF.out]; rfl), (HB3.out.setCell hle _).setCell hle _⟩
    · as_aux_lemma =>
        have hff := HF1.out
        rw [hk] at hff
        have hop := HO.out
        rw [← Option.some.inj hff] at hop
        dsimp only at hop
        subst hop
        have hargs : f.args = [78] := by rw [← Option.some.inj hff]
        have HAR := hidP hargs
        have HFF := hidP (Option.some.inj hff).symm
        clear hff hargs hk
        go_wp2_with fail
        refine (HD.out _).mono ?_
        rintro e w4 ⟨t, rfl, _, ht, hb4⟩
        obtain rfl := ht (by omega)
        clear ht
        go_wp2_with fail
        go_meet
        exact ⟨congrArg Value.string (by rw [← HSGG.out, strA_app, e_N HF.out HAR.out]), (blk_below (blk_set HN3.out 3 _) hb4).trans (by rw [HFF.out]; rfl), bstep (HB3.out.setCell hle _) hb4⟩
    · as_aux_lemma =>
        have hff := HF1.out
        rw [hk] at hff
        have hop := HO.out
        rw [← Option.some.inj hff] at hop
        dsimp only at hop
        subst hop
        have hargs : f.args = [78] := by rw [← Option.some.inj hff]
        have HAR := hidP hargs
        have HFF := hidP (Option.some.inj hff).symm
        clear hff hargs hk
        go_wp2_with fail
        refine (HD.out _).mono ?_
        rintro e w4 ⟨t, rfl, _, ht, hb4⟩
        obtain rfl := ht (by omega)
        clear ht
        go_wp2_with fail
        go_meet
        exact ⟨congrArg Value.string (by rw [← HSGG.out, strA_app, e_N HF.out HAR.out]), (blk_below (blk_set HN3.out 3 _) hb4).trans (by rw [HFF.out]; rfl), bstep (HB3.out.setCell hle _) hb4⟩
    · as_aux_lemma =>
        have hff := HF1.out
        rw [hk] at hff
        have hop := HO.out
        rw [← Option.some.inj hff] at hop
        dsimp only at hop
        subst hop
        have hargs : f.args = [97, 78] := by rw [← Option.some.inj hff]
        have HAR := hidP hargs
        have HFF := hidP (Option.some.inj hff).symm
        clear hff hargs hk
        go_wp2_with fail
        refine (HD.out _).mono ?_
        rintro e w4 ⟨t, rfl, _, ht, hb4⟩
        obtain rfl := ht (by omega)
        clear ht
        go_wp2_with fail
        go_meet
        exact ⟨congrArg Value.string (by rw [← HSGG.out, strA_app, strA_app, e_aN HF.out HAR.out hA2]), (blk_below (blk_set (blk_set HN3.out 1 _) 3 _) hb4).trans (by rw [HFF.out]; rfl), bstep ((HB3.out.setCell hle _).setCell hle _) hb4⟩
    · as_aux_lemma =>
        have hff := HF1.out
        rw [hk] at hff
        have hop := HO.out
        rw [← Option.some.inj hff] at hop
        dsimp only at hop
        subst hop
        have hargs : f.args = [97] := by rw [← Option.some.inj hff]
        have HAR := hidP hargs
        have HFF := hidP (Option.some.inj hff).symm
        clear hff hargs hk
        go_wp2_with fail
        go_meet
        exact ⟨congrArg Value.string (by rw [← HSGG.out, strA_app, e_a HF.out HAR.out hA2]), (blk_set HN3.out 1 _).trans (by rw [HFF.out]; rfl), HB3.out.setCell hle _⟩
    · as_aux_lemma =>
        have hff := HF1.out
        rw [hk] at hff
        have hop := HO.out
        rw [← Option.some.inj hff] at hop
        dsimp only at hop
        subst hop
        have hargs : f.args = [97, 78] := by rw [← Option.some.inj hff]
        have HAR := hidP hargs
        have HFF := hidP (Option.some.inj hff).symm
        clear hff hargs hk
        go_wp2_with fail
        refine (HD.out _).mono ?_
        rintro e w4 ⟨t, rfl, _, ht, hb4⟩
        obtain rfl := ht (by omega)
        clear ht
        go_wp2_with fail
        go_meet
        exact ⟨congrArg Value.string (by rw [← HSGG.out, strA_app, strA_app, e_aN HF.out HAR.out hA2]), (blk_below (blk_set (blk_set HN3.out 1 _) 3 _) hb4).trans (by rw [HFF.out]; rfl), bstep ((HB3.out.setCell hle _).setCell hle _) hb4⟩
    · as_aux_lemma =>
        have hff := HF1.out
        rw [hk] at hff
        have hop := HO.out
        rw [← Option.some.inj hff] at hop
        dsimp only at hop
        subst hop
        have hargs : f.args = [97, 98] := by rw [← Option.some.inj hff]
        have HAR := hidP hargs
        have HFF := hidP (Option.some.inj hff).symm
        clear hff hargs hk
        go_wp2_with fail
        go_meet
        exact ⟨congrArg Value.string (by rw [← HSGG.out, strA_app, strA_app, e_ab HF.out HAR.out hA2 hB2]), (blk_set (blk_set HN3.out 1 _) 2 _).trans (by rw [HFF.out]; rfl), (HB3.out.setCell hle _).setCell hle _⟩
    · as_aux_lemma =>
        have hff := HF1.out
        rw [hk] at hff
        have hop := HO.out
        rw [← Option.some.inj hff] at hop
        dsimp only at hop
        subst hop
        have hargs : f.args = [97, 98] := by rw [← Option.some.inj hff]
        have HAR := hidP hargs
        have HFF := hidP (Option.some.inj hff).symm
        clear hff hargs hk
        go_wp2_with fail
        go_meet
        exact ⟨congrArg Value.string (by rw [← HSGG.out, strA_app, strA_app, e_ab HF.out HAR.out hA2 hB2]), (blk_set (blk_set HN3.out 1 _) 2 _).trans (by rw [HFF.out]; rfl), (HB3.out.setCell hle _).setCell hle _⟩
    · as_aux_lemma =>
        have hff := HF1.out
        rw [hk] at hff
        have hop := HO.out
        rw [← Option.some.inj hff] at hop
        dsimp only at hop
        subst hop
        have hargs : f.args = [97, 98] := by rw [← Option.some.inj hff]
        have HAR := hidP hargs
        have HFF := hidP (Option.some.inj hff).symm
        clear hff hargs hk
        go_wp2_with fail
        go_meet
        exact ⟨congrArg Value.string (by rw [← HSGG.out, strA_app, strA_app, e_ab HF.out HAR.out hA2 hB2]), (blk_set (blk_set HN3.out 1 _) 2 _).trans (by rw [HFF.out]; rfl), (HB3.out.setCell hle _).setCell hle _⟩
    · as_aux_lemma =>
        have hff := HF1.out
        rw [hk] at hff
        have hop := HO.out
        rw [← Option.some.inj hff] at hop
        dsimp only at hop
        subst hop
        have hargs : f.args = [110, 97] := by rw [← Option.some.inj hff]
        have HAR := hidP hargs
        have HFF := hidP (Option.some.inj hff).symm
        clear hff hargs hk
        go_wp2_with fail
        refine (HD10.out _).mono ?_
        rintro e w4 ⟨t, rfl, _, ht, hb4⟩
        obtain rfl := ht (by omega)
        clear ht
        go_wp2_with fail
        go_meet
        exact ⟨congrArg Value.string (by rw [← HSGG.out, strA_app, strA_app, e_na HF.out HAR.out hA2, HT.out]), (blk_below (blk_set (blk_set HN3.out 1 _) 3 _) hb4).trans (by rw [HFF.out, ← HT.out]; rfl), bstep ((HB3.out.setCell hle _).setCell hle _) hb4⟩
    · as_aux_lemma =>
        have hff := HF1.out
        rw [hk] at hff
        have hop := HO.out
        rw [← Option.some.inj hff] at hop
        dsimp only at hop
        subst hop
        have hargs : f.args = [97, 78] := by rw [← Option.some.inj hff]
        have HAR := hidP hargs
        have HFF := hidP (Option.some.inj hff).symm
        clear hff hargs hk
        go_wp2_with fail
        refine (HD.out _).mono ?_
        rintro e w4 ⟨t, rfl, _, ht, hb4⟩
        obtain rfl := ht (by omega)
        clear ht
        go_wp2_with fail
        go_meet
        exact ⟨congrArg Value.string (by rw [← HSGG.out, strA_app, strA_app, e_aN HF.out HAR.out hA2]), (blk_below (blk_set (blk_set HN3.out 1 _) 3 _) hb4).trans (by rw [HFF.out]; rfl), bstep ((HB3.out.setCell hle _).setCell hle _) hb4⟩
    · as_aux_lemma =>
        have hff := HF1.out
        rw [hk] at hff
        have hop := HO.out
        rw [← Option.some.inj hff] at hop
        dsimp only at hop
        subst hop
        have hargs : f.args = [97, 78] := by rw [← Option.some.inj hff]
        have HAR := hidP hargs
        have HFF := hidP (Option.some.inj hff).symm
        clear hff hargs hk
        go_wp2_with fail
        refine (HD.out _).mono ?_
        rintro e w4 ⟨t, rfl, _, ht, hb4⟩
        obtain rfl := ht (by omega)
        clear ht
        go_wp2_with fail
        go_meet
        exact ⟨congrArg Value.string (by rw [← HSGG.out, strA_app, strA_app, e_aN HF.out HAR.out hA2]), (blk_below (blk_set (blk_set HN3.out 1 _) 3 _) hb4).trans (by rw [HFF.out]; rfl), bstep ((HB3.out.setCell hle _).setCell hle _) hb4⟩
    · as_aux_lemma =>
        have hff := HF1.out
        rw [hk] at hff
        have hop := HO.out
        rw [← Option.some.inj hff] at hop
        dsimp only at hop
        subst hop
        have hargs : f.args = [] := by rw [← Option.some.inj hff]
        have HAR := hidP hargs
        have HFF := hidP (Option.some.inj hff).symm
        clear hff hargs hk
        go_wp2_with fail
        go_meet
        exact ⟨congrArg Value.string (by rw [← HSGG.out, e_no HF.out HAR.out]), HN3.out.trans (by rw [HFF.out]; rfl), HB3.out⟩
  case rest =>
  obtain ⟨rfl, HX, hB4⟩ := hcut
  generalize wc = w4 at *
  have hsh := eX_shaped HF.out hA2 hB2 hN2
  have h21 := eX_21 HF.out A B N
  have hsg := signs_rW (eX f A B N)
  have hfew := rW_few h21 hsh
  obtain ⟨m, hm⟩ : ∃ m, (rW (eX f A B N)).length = m + 1 := ⟨(rW (eX f A B N)).length - 1, by have := List.length_pos_iff.2 hsg.2; omega⟩
  have hd1 := each_one hsh h21
  have hd2 := each_more hsh h21
  have hd3 : cutB f.op m N = false → decodeR (strA ((rW (eX f A B N)).dropLast ++ [10, 120])) = ([], 1, 5) := fun h => each_less hsh h21 (by have := (cut_no HF.out (A := A) (B := B) h).1; omega) (cut_no HF.out h).2
  have hxo : (eX f A B N).op = op := HO.out
  have hxc : (eX f A B N).cases = [] := rfl
  rw [HO.out] at hd3
  obtain ⟨X, hX⟩ : ∃ X, eX f A B N = X := ⟨_, rfl⟩
  rw [hX] at hxo hxc
  simp only [hX] at HX hd1 hd2 hd3 hsg hm hfew ⊢
  obtain ⟨L, hL⟩ : ∃ L, rW X = L := ⟨_, rfl⟩
  simp only [hL] at hd1 hd2 hd3 hsg hm hfew ⊢
  have hm8 : m ≤ 8 := by omega
  have sL : (strA L).size = m + 1 := by rw [strA_size]; exact hm
  have hp1 : ({ data := #[120, 10] } : ByteArray) ++ strA L = strA ([120, 10] ++ L) := strA_app [120, 10] L
  have hp2 : ({ data := #[120, 10, 120, 10] } : ByteArray) ++ strA L ++ { data := #[63] } = strA ([120, 10, 120, 10] ++ L ++ [63]) := (congrArg (· ++ strA [63]) (strA_app [120, 10, 120, 10] L)).trans (strA_app _ _)
  have hp3 : (strA L).extract 0 m ++ { data := #[10, 120] } = strA (L.dropLast ++ [10, 120]) := by
    rw [cut_hi, List.dropLast_eq_take, hm, Nat.add_sub_cancel]
    exact strA_app (L.take m) [10, 120]
  obtain ⟨⟨D, dt, de⟩, hD⟩ : ∃ D, decodeR (strA (L.dropLast ++ [10, 120])) = D := ⟨_, rfl⟩
  have he1 := fun w' (hb : Below w.heap.size w w') => decode_any (strA ([120, 10] ++ L)) w' (by rw [strA_size, List.length_append, hm]; simp; omega) (HEN.out.below hb).env
  have he2 := fun w' (hb : Below w.heap.size w w') => decode_any (strA ([120, 10, 120, 10] ++ L ++ [63])) w' (by rw [strA_size, List.length_append, List.length_append, hm]; simp; omega) (HEN.out.below hb).env
  have he3 := fun w' (hb : Below w.heap.size w w') => decode_any (strA (L.dropLast ++ [10, 120])) w' (by rw [strA_size, List.length_append, List.length_dropLast, hm]; simp; omega) (HEN.out.below hb).env
  simp only [hd1] at he1
  simp only [hd2] at he2
  rw [hD] at hd3
  simp only [hD] at he3
  rw [← hp1] at he1
  rw [← hp2] at he2
  rw [← hp3] at he3
  unfold DecPost at he1 he2 he3
  dsimp only [List.length_cons, List.length_nil] at he1 he2 he3
  have HD1 := hidP he1
  have HD2 := hidP he2
  have HD3 := hidP he3
  have HC3 : Hid (cutB op m N = false → dt = 1 ∧ de = 5) := fun h => by have := hd3 h; cases this; exact ⟨rfl, rfl⟩
  have HXO := hidP hxo
  have HXC := hidP hxc
  have HB4 := hidP hB4
  clear hp1 hp2 hp3 hD he1 he2 he3 hd1 hd2 hd3 hsg hfew hm hL hX hxo hxc hsh h21 sA sB sG sN sT aw bw aw2 bw2 hT1 hT2 hT3 HT HD HD10 HN3 HB3 x0 x1 x2 x3 x4 hl3 f1 f2 f3
  go_wp2_with fail
  refine (HD1.out _ HB4.out).mono ?_
  rintro e w5 ⟨A5, c5, rfl, hv5, hb5⟩
  have HB5 := hidP (bstep HB4.out hb5)
  have HX5 := hidP (blk_below HX.out hb5)
  go_wp2_with fail
  refine (HD2.out _ HB5.out).mono ?_
  rintro e w6 ⟨A6, c6, rfl, hv6, hb6⟩
  have HB6 := hidP (bstep HB5.out hb6)
  have HX6 := hidP (blk_below HX5.out hb6)
  have HV5 := hidP (Kd.R_below hv5 hb6)
  clear hv5 hv6 hb5 hb6 HD1 HD2
  go_wp2_with fail
  refine (HD3.out _ HB6.out).mono ?_
  rintro e w7 ⟨A7, c7, rfl, hv7, hb7⟩
  have HB7 := hidP (bstep HB6.out hb7)
  have hn7 := blk_below HX6.out hb7
  have HV7 := hidP (Kd.R_below HV5.out hb7)
  clear hv7 hb7 HD3
  unfold eCells at hn7
  rw [HXO.out] at hn7
  obtain ⟨x0, x1, x2, x3, x4⟩ := five_cells hn7
  have hl7 := blk_lt hn7
  have HN7 := hidP hn7
  clear hn7
  go_upto_region 34 with fail
  obtain ⟨CU, hCU⟩ : ∃ CU, cutB op m N = CU := ⟨_, rfl⟩
  have HCU := hidP hCU
  clear hCU
  go_cut [25] (fun v25 wx => v25 = .bool CU ∧ w7 = wx)
  case first =>
    clear HC3
    by_cases hm0 : m = 0
    · have HE : Hid (CU = true) := by show _ = _; rw [← HCU.out]; unfold cutB; simp [hm0]
      subst hm0
      as_aux_lemma =>
        go_wp2_with fail
        go_meet
        exact ⟨by rw [HE.out], rfl⟩
    · have tm : (((m + 1 : Nat) : Int) == 1) = false := by simp; omega
      have tm2 : (((m : Nat) : Int) + 1 == 1) = false := by simp; omega
      have tm3 : ¬ (m + 1 = 1) := by omega
      by_cases hN9 : 9 < N
      · have tN : (9 : Int) < (N : Int) := by omega
        have hop : op = 1 ∨ op = 4 ∨ op = 12 ∨ op = 14 ∨ op = 20 ∨ op = 19 ∨ op = 10 ∨ op = 11 ∨ (op ≠ 1 ∧ op ≠ 4 ∧ op ≠ 12 ∧ op ≠ 14 ∧ op ≠ 20 ∧ op ≠ 19 ∧ op ≠ 10 ∧ op ≠ 11) := by omega
        rcases hop with rfl | rfl | rfl | rfl | rfl | rfl | rfl | rfl | ⟨o1, o2, o3, o4, o5, o6, o7, o8⟩
        ·
          have HE : Hid (CU = true) := by show _ = _; rw [← HCU.out]; unfold cutB cutSet; simp [hN9]
          as_aux_lemma =>
            go_wp2_with fail
            go_meet
            exact ⟨by rw [HE.out], rfl⟩
        ·
          have HE : Hid (CU = true) := by show _ = _; rw [← HCU.out]; unfold cutB cutSet; simp [hN9]
          as_aux_lemma =>
            go_wp2_with fail
            go_meet
            exact ⟨by rw [HE.out], rfl⟩
        ·
          have HE : Hid (CU = true) := by show _ = _; rw [← HCU.out]; unfold cutB cutSet; simp [hN9]
          as_aux_lemma =>
            go_wp2_with fail
            go_meet
            exact ⟨by rw [HE.out], rfl⟩
        ·
          have HE : Hid (CU = true) := by show _ = _; rw [← HCU.out]; unfold cutB cutSet; simp [hN9]
          as_aux_lemma =>
            go_wp2_with fail
            go_meet
            exact ⟨by rw [HE.out], rfl⟩
        ·
          have HE : Hid (CU = true) := by show _ = _; rw [← HCU.out]; unfold cutB cutSet; simp [hN9]
          as_aux_lemma =>
            go_wp2_with fail
            go_meet
            exact ⟨by rw [HE.out], rfl⟩
        ·
          have HE : Hid (CU = true) := by show _ = _; rw [← HCU.out]; unfold cutB cutSet; simp [hN9]
          as_aux_lemma =>
            go_wp2_with fail
            go_meet
            exact ⟨by rw [HE.out], rfl⟩
        ·
          have HE : Hid (CU = true) := by show _ = _; rw [← HCU.out]; unfold cutB cutSet; simp [hN9]
          as_aux_lemma =>
            go_wp2_with fail
            go_meet
            exact ⟨by rw [HE.out], rfl⟩
        ·
          have HE : Hid (CU = true) := by show _ = _; rw [← HCU.out]; unfold cutB cutSet; simp [hN9]
          as_aux_lemma =>
            go_wp2_with fail
            go_meet
            exact ⟨by rw [HE.out], rfl⟩
        ·
          have HE : Hid (CU = false) := by show _ = _; rw [← HCU.out]; unfold cutB cutSet; simp [hm0, o1, o2, o3, o4, o5, o6, o7, o8]
          have t1 : (op == 1) = false := by simp [o1]
          have t2 : (op == 4) = false := by simp [o2]
          have t3 : (op == 12) = false := by simp [o3]
          have t4 : (op == 14) = false := by simp [o4]
          have t5 : (op == 20) = false := by simp [o5]
          have t6 : (op == 19) = false := by simp [o6]
          have t7 : (op == 10) = false := by simp [o7]
          have t8 : (op == 11) = false := by simp [o8]
          clear o1 o2 o3 o4 o5 o6 o7 o8
          as_aux_lemma =>
            go_wp2_with fail
            go_meet
            exact ⟨by rw [HE.out], rfl⟩
      · have tN : ¬ (9 : Int) < (N : Int) := by omega
        have tN2 : decide ((9 : Int) < (N : Int)) = false := decide_eq_false tN
        have HE : Hid (CU = false) := by show _ = _; rw [← HCU.out]; unfold cutB; simp [hN9, hm0]
        have hop : op = 1 ∨ op = 4 ∨ op = 12 ∨ op = 14 ∨ op = 20 ∨ op = 19 ∨ op = 10 ∨ op = 11 ∨ (op ≠ 1 ∧ op ≠ 4 ∧ op ≠ 12 ∧ op ≠ 14 ∧ op ≠ 20 ∧ op ≠ 19 ∧ op ≠ 10 ∧ op ≠ 11) := by omega
        rcases hop with rfl | rfl | rfl | rfl | rfl | rfl | rfl | rfl | ⟨o1, o2, o3, o4, o5, o6, o7, o8⟩
        ·
          as_aux_lemma =>
            go_wp2_with fail
            go_meet
            exact ⟨by rw [HE.out], rfl⟩
        ·
          as_aux_lemma =>
            go_wp2_with fail
            go_meet
            exact ⟨by rw [HE.out], rfl⟩
        ·
          as_aux_lemma =>
            go_wp2_with fail
            go_meet
            exact ⟨by rw [HE.out], rfl⟩
        ·
          as_aux_lemma =>
            go_wp2_with fail
            go_meet
            exact ⟨by rw [HE.out], rfl⟩
        ·
          as_aux_lemma =>
            go_wp2_with fail
            go_meet
            exact ⟨by rw [HE.out], rfl⟩
        ·
          as_aux_lemma =>
            go_wp2_with fail
            go_meet
            exact ⟨by rw [HE.out], rfl⟩
        ·
          as_aux_lemma =>
            go_wp2_with fail
            go_meet
            exact ⟨by rw [HE.out], rfl⟩
        ·
          as_aux_lemma =>
            go_wp2_with fail
            go_meet
            exact ⟨by rw [HE.out], rfl⟩
        ·
          have t1 : (op == 1) = false := by simp [o1]
          have t2 : (op == 4) = false := by simp [o2]
          have t3 : (op == 12) = false := by simp [o3]
          have t4 : (op == 14) = false := by simp [o4]
          have t5 : (op == 20) = false := by simp [o5]
          have t6 : (op == 19) = false := by simp [o6]
          have t7 : (op == 10) = false := by simp [o7]
          have t8 : (op == 11) = false := by simp [o8]
          clear o1 o2 o3 o4 o5 o6 o7 o8
          as_aux_lemma =>
            go_wp2_with fail
            go_meet
            exact ⟨by rw [HE.out], rfl⟩
  case rest =>
  obtain ⟨rfl, rfl⟩ := hcut
  have haw := awake02_any w7 (HEN.out.below HB7.out)
  have HAW := hidP haw
  clear haw x0 x1 x2 x3 x4 hl7 HX5 HX6 HB4 HB5 HB6 HV5 HX
  go_wp2_with fail
  refine HAW.out.mono ?_
  rintro e w8 ⟨rfl, hb8⟩
  have HB8 := hidP (bstep HB7.out hb8)
  have hn8 := blk_below HN7.out hb8
  obtain ⟨x0, x1, x2, x3, x4⟩ := five_cells hn8
  have hl8 := blk_lt hn8
  obtain ⟨A', c', e5, _, hC5⟩ := Kd.R_reads (Kd.R_below HV7.out hb8)
  cases e5
  have hins := instrs_yes A5 (some ⟨w8.heap.size, 0, none⟩) c5 2 [exD, X] [exD, X] (w8.alloc (.cells (plainI [exD, X]).toArray 37)) (Kd.C_below hC5 (bnew (brefl _) _)) (plain_reads w8 [exD, X] (fun y hy => by
    rcases List.mem_cons.1 hy with rfl | hy
    · rfl
    · rw [List.mem_singleton] at hy; subst hy; exact HXC.out) (by simp)) rfl
  have hp : (plainI [exD, X]).toArray = #[.int .i64 22, .int .i64 0, .int .i64 0, .int .i64 0, .slice none 0 0, .int .i64 X.op, .int .i64 X.a, .int .i64 X.b, .int .i64 X.n, .slice none 0 0] := rfl
  rw [hp, HXO.out] at hins
  have HI := hidP hins
  clear hins hp hC5 hb8 hn8 HV7 HN7 HB7 HAW
  go_wp2_with fail
  refine HI.out.mono ?_
  rintro e w9 ⟨rfl, hb9⟩
  have HB9 := hidP (bstep (bnew HB8.out _) hb9)
  clear hb9 HI x0 x1 x2 x3 x4 hl8
  cases CU
  · obtain ⟨rfl, rfl⟩ := HC3.out HCU.out
    go_wp2
    go_ret
    exact ⟨rfl, HB9.out⟩
  · go_wp2
    go_ret
    exact ⟨rfl, HB9.out⟩
theorem codeEachW (W : World) (a0 : Int) (b0 : -9223372036854775808 ≤ a0 ∧ a0 ≤ 9223372036854775807) (a1 : Int) (b1 : -9223372036854775808 ≤ a1 ∧ a1 ≤ 9223372036854775807) (a2 : Int) (b2 : -9223372036854775808 ≤ a2 ∧ a2 ≤ 9223372036854775807) (a3 : Int) (b3 : -9223372036854775808 ≤ a3 ∧ a3 ≤ 9223372036854775807) (he : EnvK W) :
    Calls Tryd.prog 10 #[.int .i64 a0, .int .i64 a1, .int .i64 a2, .int .i64 a3] W fun e w' => e = .returned (.bool true) ∧ Below W.heap.size W w' := codeEach_any a0 a1 a2 a3 W he
end Go.Proofs.YtoflhfiegfhkoaaDoor
