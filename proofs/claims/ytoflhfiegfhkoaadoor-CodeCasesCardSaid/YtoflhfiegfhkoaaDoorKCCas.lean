/-
  The walk over the law CodeCases.
-/
import Derived.Test.YtoflhfiegfhkoaaDoorKCTells
import Derived.Test.YtoflhfiegfhkoaaDoorKCCasP
import Derived.Test.YtoflhfiegfhkoaaDoorKRegs
import Derived.Test.YtoflhfiegfhkoaaDoorOpen
import Derived.BigRegion
namespace Go.Proofs.YtoflhfiegfhkoaaDoor
open Go.RowKit Go.Proofs.YtoflhfiegfhkoaaDoorW.PrintWords
set_option linter.unusedVariables false
set_option linter.unusedSimpArgs false

theorem conv_two (m n : Nat) (hm : m < 256) (hn : n < 256) (b c : Nat) (w : World) (h0 : w.cell? ⟨b, 0, none⟩ = some (.int .u8 (m : Int))) (h1 : w.cell? ⟨b, 1, none⟩ = some (.int .u8 (n : Int))) : (convert 47 9 (.slice (some ⟨b, 0, none⟩) 2 c)).run Tryd.prog w = .ok (.string (strA [m, n])) w := by
  refine run_convert_bytes_back w _ _ 5 ⟨b, 0, none⟩ c [UInt8.ofNat m, UInt8.ofNat n] Tryd.underlying47 Tryd.underlying5 Tryd.underlying9 ?_
  intro j hj
  simp at hj
  have em : ((UInt8.ofNat m).toNat : Int) = (m : Int) := by
    have : (UInt8.ofNat m).toNat = m := by simp; omega
    rw [this]
  have en : ((UInt8.ofNat n).toNat : Int) = (n : Int) := by
    have : (UInt8.ofNat n).toNat = n := by simp; omega
    rw [this]
  have e : (⟨b, 0, none⟩ : Addr).add j = ⟨b, j, none⟩ := by rw [Addr.add_lit, Nat.zero_add]
  rw [e]
  have hj2 : j = 0 ∨ j = 1 := by
    rcases Nat.lt_or_ge j 1 with h | h
    · exact .inl (by omega)
    · exact .inr (by omega)
  rcases hj2 with rfl | rfl
  · rw [h0]
    simp only [List.getElem_cons_zero]
    rw [em]
  · rw [h1]
    simp only [List.getElem_cons_succ, List.getElem_cons_zero]
    rw [en]
theorem cut_sr (r : Nat) (h : r < 2) : ({ data := #[115, 114] } : ByteArray).extract r (r + 1) = strA [if r = 0 then 115 else 114] := by
  have h2 : r = 0 ∨ r = 1 := by omega
  rcases h2 with rfl | rfl <;> decide +kernel

theorem letter_ofC {a : Nat} (h : a < 6) : letterN (a : Int) = 97 + a := by unfold letterN; rw [if_neg (by omega)]; omega
theorem caseW_new {r1 r2 i K U : Nat} (hK : 1 + r1 = K) (h1 : r1 < 2) (h2 : r2 < 6) (h3 : i < 6) : caseW ⟨K, r2, i, U⟩ = [if r1 = 0 then 115 else 114] ++ [97 + r2, 97 + i] ++ decN U := by
  unfold caseW caseH
  dsimp only
  rw [letter_ofC h2, letter_ofC h3, Int.toNat_natCast]
  have h : r1 = 0 ∨ r1 = 1 := by omega
  rcases h with rfl | rfl
  · obtain rfl : K = 1 := by omega
    rfl
  · obtain rfl : K = 2 := by omega
    rfl
theorem okC_new {r1 r2 i K U : Nat} (hK : 1 + r1 = K) (h1 : r1 < 2) (h2 : r2 < 6) (h3 : i < 6) (hU : U < 106) : okC ⟨K, r2, i, U⟩ := by
  unfold okC caseSt
  dsimp only
  omega
theorem modH (n : Int) (k : Nat) (hk : 0 < k) (hk1 : k < 4294967296) : ∃ r : Nat, r < k ∧ Hid ((IntKind.u64.wrap n).tmod (k : Int) = (r : Int)) ∧ Hid (wrap64 (r : Int) = (r : Int)) := by
  obtain ⟨r, h1, h2, h3⟩ := modK n k hk hk1
  exact ⟨r, h2, h1, h3⟩
theorem i64_small {x : Int} (h0 : 0 ≤ x) (h1 : x ≤ 100000) : IntKind.i64.wrap x = x := IntWalk.i64_in _ (by omega)

theorem one_reads (w : World) (x : InstrD) (A : Option Addr) (c : Nat) (hl : x.cases.length ≤ c) (hC : kC.C w A x.cases.length x.cases) : kI.C (w.alloc (.cells #[.int .i64 x.op, .int .i64 x.a, .int .i64 x.b, .int .i64 x.n, .slice A x.cases.length c] 37)) (some ⟨w.heap.size, 0, none⟩) 1 [x] := by
  refine ⟨rfl, by decide, fun _ => ⟨_, rfl, fun j p hj => ?_⟩⟩
  have hlen : j < 1 := by have := (List.getElem?_eq_some_iff.1 hj).1; simpa using this
  obtain rfl : j = 0 := by omega
  simp at hj
  subst hj
  refine ⟨instrC x (.slice A x.cases.length c), rfl, kI_mk _ x hl (Kd.C_below hC (bnew (brefl _) _)), fun k u hk => ?_⟩
  rw [Addr.add_lit, blk_cell (blk_new w _)]
  show (#[Value.int .i64 x.op, .int .i64 x.a, .int .i64 x.b, .int .i64 x.n, .slice A x.cases.length c] : Array Value)[0 + (0 * 5 + k)]? = some u
  rw [show 0 + (0 * 5 + k) = k by omega, List.getElem?_toArray]
  exact hk

set_option maxRecDepth 100000 in
set_option maxHeartbeats 6400000 in
theorem codeCases_any (a1 a2 : Option Addr) (c1 c2 : Nat) (ks chs : List Int) (t : Int) (w : World) (h1 : RowAt w a1 (ks.map (Value.int .i64))) (h2 : RowAt w a2 (chs.map (Value.int .i64))) (l1 : ks.length ≤ 9223372036854775807) (l2 : chs.length ≤ 9223372036854775807) (he : EnvK w) :
    Calls Tryd.prog 11 #[.slice a1 ks.length c1, .slice a2 chs.length c2, .int .i64 t] w fun e w' => e = .returned (.bool true) ∧ Below w.heap.size w w' := by
  obtain ⟨T, hT1, hT2, hT3⟩ := modK t 100 (by omega) (by omega)
  have hT1' : (IntKind.u64.wrap t).tmod 100 = (T : Int) := hT1
  obtain ⟨n1, hn1⟩ : ∃ n, ks.length = n := ⟨_, rfl⟩
  obtain ⟨n2, hn2⟩ : ∃ n, chs.length = n := ⟨_, rfl⟩
  rw [hn1] at l1 ⊢
  rw [hn2] at l2 ⊢
  have HN1 := hidP hn1
  have HN2 := hidP hn2
  have HR1 := hidP h1
  have HR2 := hidP h2
  have HEN := hidP he
  clear hT1 hn1 hn2 h1 h2 he
  go_enter Tryd.func11, Tryd.ntmps11
  go_upto_block 0 with fail
  have hx0 := blk_new w (.cells #[.int .i64 21, .int .i64 0, .int .i64 0, .int .i64 0, .slice none 0 0] 37)
  have hb0 := bnew (brefl w) (.cells #[.int .i64 21, .int .i64 0, .int .i64 0, .int .i64 0, .slice none 0 0] 37)
  have hz0 : (w.alloc (.cells #[.int .i64 21, .int .i64 0, .int .i64 0, .int .i64 0, .slice none 0 0] 37)).heap.size = w.heap.size + 1 := by simp
  generalize w.alloc (.cells #[.int .i64 21, .int .i64 0, .int .i64 0, .int .i64 0, .slice none 0 0] 37) = w0 at *
  go_cut [8, 9, 10] from 33 to 98 (fun v8 v9 v10 wr => ∃ (i : Nat) (cs : List CaseD) (B : Option Addr) (d : Nat), v8 = .string (strA (83 :: cs.flatMap caseW)) ∧ i ≤ 6 ∧ cs.length = i ∧ Hid (∀ c ∈ cs, okC c) ∧
      Hid (wr.heap[w.heap.size]? = some (.cells #[.int .i64 21, .int .i64 0, .int .i64 0, .int .i64 0, .slice B i d] 37 (0, 0))) ∧ Hid (kC.R 39 wr (w.heap.size + 1) (fun j => w.heap.size + 1 ≤ j) (.slice B i d) cs) ∧ Hid (Below w.heap.size w wr) ∧ w.heap.size + 1 ≤ wr.heap.size)
  case first =>
    go_wp2_with fail
    go_loopw [8, 9] (fun v8 v9 wr => ∃ (i : Nat) (cs : List CaseD) (B : Option Addr) (d : Nat), v9 = .int .i64 i ∧ v8 = .string (strA (83 :: cs.flatMap caseW)) ∧ i ≤ 6 ∧ cs.length = i ∧ Hid (∀ c ∈ cs, okC c) ∧
        Hid (wr.heap[w.heap.size]? = some (.cells #[.int .i64 21, .int .i64 0, .int .i64 0, .int .i64 0, .slice B i d] 37 (0, 0))) ∧ Hid (kC.R 39 wr (w.heap.size + 1) (fun j => w.heap.size + 1 ≤ j) (.slice B i d) cs) ∧ Hid (Below w.heap.size w wr) ∧ w.heap.size + 1 ≤ wr.heap.size) (fun _ v9 _ => 6 - (intOf v9).toNat)
    case atStart => exact ⟨0, [], none, 0, rfl, rfl, by omega, rfl, hidP (fun c hc => by simp at hc), hx0, Kd.R_nil _ _ _ _ _, hb0, by omega⟩
    case round =>
      obtain ⟨i, cs, B, d, rfl, rfl, hi, hcs, HOK, HX, HR, HB, hzr⟩ := hrel
      obtain ⟨w1, e1⟩ : ∃ w1, w1 = wr := ⟨_, rfl⟩
      subst e1
      by_cases hlt : i < n1 ∧ i < n2 ∧ i < 6
      · obtain ⟨i1, i2, i3⟩ := hlt
        obtain ⟨k, hk⟩ : ∃ k, ks[i]? = some k := ⟨_, List.getElem?_eq_getElem (by rw [HN1.out]; exact i1)⟩
        obtain ⟨ch, hch⟩ : ∃ ch, chs[i]? = some ch := ⟨_, List.getElem?_eq_getElem (by rw [HN2.out]; exact i2)⟩
        obtain ⟨b1, o1, rfl, hc1⟩ := (HR1.out.below HB.out).addr (by rw [List.length_map, HN1.out]; omega)
        obtain ⟨b2, o2, rfl, hc2⟩ := (HR2.out.below HB.out).addr (by rw [List.length_map, HN2.out]; omega)
        have x1 := hc1 i _ (by rw [List.getElem?_map, hk]; rfl)
        have x2 := hc2 i _ (by rw [List.getElem?_map, hch]; rfl)
        obtain ⟨r1, p2, P1, P3⟩ := modH k 2 (by omega) (by omega)
        obtain ⟨r2, q2, Q1, Q3⟩ := modH ch 6 (by omega) (by omega)
        have lt1 : (i : Int) < (n1 : Int) := by omega
        have lt2 : (i : Int) < (n2 : Int) := by omega
        have lt3 : (i : Int) < 6 := by omega
        have e6 : (i : Int) % 6 = (i : Int) := by omega
        have e6' : (i : Int).tmod 6 = (i : Int) := by rw [Int.tmod_eq_emod_of_nonneg (by omega)]; exact e6
        obtain ⟨K, hK⟩ : ∃ K : Nat, 1 + r1 = K := ⟨_, rfl⟩
        obtain ⟨U, hU⟩ : ∃ U : Nat, T + i = U := ⟨_, rfl⟩
        have sTi : (T : Int) + (i : Int) = (U : Int) := by omega
        have s1r : (1 : Int) + (r1 : Int) = (K : Int) := by omega
        have hK3 : K < 3 := by omega
        have hU3 : U < 106 := by omega
        have wTi : IntKind.i64.wrap (U : Int) = (U : Int) := i64_small (by omega) (by omega)
        have w1r : IntKind.i64.wrap (K : Int) = (K : Int) := i64_small (by omega) (by omega)
        have wi : IntKind.i64.wrap (i : Int) = (i : Int) := i64_small (by omega) (by omega)
        have wr1 : IntKind.i64.wrap (r1 : Int) = (r1 : Int) := i64_small (by omega) (by omega)
        have wr2 : IntKind.i64.wrap (r2 : Int) = (r2 : Int) := i64_small (by omega) (by omega)
        have HK := hidP hK
        have HU := hidP hU
        have p1' : (IntKind.u64.wrap k).tmod 2 = (r1 : Int) := P1.out
        have q1' : (IntKind.u64.wrap ch).tmod 6 = (r2 : Int) := Q1.out
        clear hc1 hc2 hk hch hx0 hb0 hK hU
        go_upto_region 7 with fail
        go_cut [10] (fun v10 wx => v10 = .pointer (some ⟨w1.heap.size, 0, none⟩) ∧ wx = (w1.alloc (.cells #[.int .i64 K, .int .i64 r2, .int .i64 i, .int .i64 U] 39)).drew)
        case first =>
          go_region_held3 (fun w' => w'.cell? ⟨b1, o1 + i, none⟩ = some (.int .i64 k) ∧ w'.cell? ⟨b2, o2 + i, none⟩ = some (.int .i64 ch))
            (first | exact ⟨x1, x2⟩ | exact ⟨pw_cell_below (bnew (brefl _) _) x1, pw_cell_below (bnew (brefl _) _) x2⟩ | fail)
            (first | fail)
          all_goals
            go_wp2_with fail
            go_meet
            exact ⟨rfl, by simp only [wr1, wr2, s1r, w1r, sTi, wTi, e6, wi]⟩
        case rest =>
        obtain ⟨rfl, rfl⟩ := hcut
        clear p1' q1' x1 x2
        have hb2 := (bnew (brefl w1) (.cells #[.int .i64 K, .int .i64 r2, .int .i64 i, .int .i64 U] 39)).drew
        have hn2 : (w1.alloc (.cells #[.int .i64 K, .int .i64 r2, .int .i64 i, .int .i64 U] 39)).drew.heap[w1.heap.size]? = some (.cells #[.int .i64 K, .int .i64 r2, .int .i64 i, .int .i64 U] 39 (0, 0)) := blk_new w1 _
        generalize (w1.alloc (.cells #[.int .i64 K, .int .i64 r2, .int .i64 i, .int .i64 U] 39)).drew = w2 at *
        have HX2 := hidP (blk_below HX.out hb2)
        have HR2' := hidP (Kd.R_below HR.out hb2)
        have HB2 := hidP (bstep HB.out hb2)
        have hz2 : w.heap.size + 1 ≤ w2.heap.size := Nat.le_trans hzr hb2.size
        have HC2 := hidP hn2
        obtain ⟨z0, z1, z2, z3⟩ := four_cells hn2
        have hS : (83 :: cs.flatMap caseW).length ≤ 43 := by
          have := (flat_len cs fun c hc => (HOK.out c hc).1).2
          rw [List.length_cons]; omega
        obtain ⟨S, hSS⟩ : ∃ S, 83 :: cs.flatMap caseW = S := ⟨_, rfl⟩
        rw [hSS] at hS ⊢
        have HSS := hidP hSS
        obtain ⟨lS, hlS⟩ : ∃ lS, S.length = lS := ⟨_, rfl⟩
        rw [hlS] at hS
        have sS : (strA S).size = lS := by rw [strA_size]; exact hlS
        have sr := cut_sr r1 p2
        rw [show r1 + 1 = K by have := HK.out; omega] at sr
        obtain ⟨SR, hSR⟩ : ∃ SR, strA [if r1 = 0 then 115 else 114] = SR := ⟨_, rfl⟩
        rw [hSR] at sr
        have sSR : SR.size = 1 := by rw [← hSR]; exact strA_size _
        have s2 : (strA [97 + r2, 97 + i]).size = 2 := strA_size _
        obtain ⟨lD, hlD⟩ : ∃ lD, (decN U).length = lD := ⟨_, rfl⟩
        have hD4 : lD ≤ 4 := by rw [← hlD]; exact decN_len4 U (by omega)
        have sD : (strA (decN U)).size = lD := by rw [strA_size]; exact hlD
        have t1 : ¬ 9223372036854775807 < lS + 1 := by omega
        have t2 : ¬ 9223372036854775807 ≤ lS := by omega
        have t3 : ¬ 9223372036854775807 < lS + 1 + 2 := by omega
        have t4 : ¬ 9223372036854775807 < lS + 3 := by omega
        have t5 : ¬ 9223372036854775807 < lS + 3 + lD := by omega
        have t6 : ¬ 9223372036854775807 < lS + 1 + 2 + lD := by omega
        have qq0 : Hid ((w2.alloc (.cells #[.int .u8 (97 + (r2 : Int)), .int .u8 (97 + (i : Int))] 5)).cell? ⟨w2.heap.size, 0, none⟩ = some (.int .u8 (97 + (r2 : Int)))) := (blk_cell (blk_new w2 _) 0).trans rfl
        have qq1 : Hid ((w2.alloc (.cells #[.int .u8 (97 + (r2 : Int)), .int .u8 (97 + (i : Int))] 5)).cell? ⟨w2.heap.size, 1, none⟩ = some (.int .u8 (97 + (i : Int)))) := (blk_cell (blk_new w2 _) 1).trans rfl
        have HV : Hid (strA S ++ SR ++ strA [97 + r2, 97 + i] ++ strA (decN U) = strA (83 :: (cs ++ [(⟨(K : Int), (r2 : Int), (i : Int), (U : Int)⟩ : CaseD)]).flatMap caseW)) := by
          show _ = _
          rw [← hSR, strA_app, strA_app, strA_app, ← hSS, List.flatMap_append]
          congr 1
          show _ = 83 :: (cs.flatMap caseW ++ [(⟨(K : Int), (r2 : Int), (i : Int), (U : Int)⟩ : CaseD)].flatMap caseW)
          rw [List.flatMap_cons, List.flatMap_nil, List.append_nil, caseW_new HK.out p2 q2 i3]
          simp
        have HOKn := hidP (okC_new (U := U) HK.out p2 q2 i3 hU3)
        have hdg := fun w' => rdigits_any (U : Int) (by unfold inI; omega) w'
        unfold DigPost at hdg
        rw [show ((U : Int)).toNat = U from Int.toNat_natCast U] at hdg
        have HDG := hidP hdg
        have sK1 : (K : Int) - 1 = (r1 : Int) := by have := HK.out; omega
        have wK1 : IntKind.i64.wrap ((K : Int) - 1) = (r1 : Int) := by rw [sK1]; exact wr1
        have bK0 : (0 : Int) ≤ (r1 : Int) := by omega
        have bK1 : (r1 : Int) ≤ (K : Int) := by have := HK.out; omega
        have bK2 : (K : Int) ≤ 2 := by omega
        have u1 : IntKind.u8.wrap (r2 : Int) = (r2 : Int) := by rw [IntKind.wrap_u8]; omega
        have u2 : IntKind.u8.wrap (i : Int) = (i : Int) := by rw [IntKind.wrap_u8]; omega
        have u3 : IntKind.u8.wrap (97 + (r2 : Int)) = 97 + (r2 : Int) := by rw [IntKind.wrap_u8]; omega
        have u4 : IntKind.u8.wrap (97 + (i : Int)) = 97 + (i : Int) := by rw [IntKind.wrap_u8]; omega
        have hcv : ∀ (w' : World) (b c : Nat), w'.cell? ⟨b, 0, none⟩ = some (.int .u8 (97 + (r2 : Int))) → w'.cell? ⟨b, 1, none⟩ = some (.int .u8 (97 + (i : Int))) → (convert 47 9 (.slice (some ⟨b, 0, none⟩) 2 c)).run Tryd.prog w' = .ok (.string (strA [97 + r2, 97 + i])) w' := by
          intro w' b c g0 g1
          exact conv_two (97 + r2) (97 + i) (by omega) (by omega) b c w' (by rw [g0]; simp) (by rw [g1]; simp)
        have hcvU : ∀ (W' : World), (convert 47 9 (.slice (some ⟨W'.heap.size, 0, none⟩) 2 2)).run Tryd.prog (W'.alloc (.cells #[.int .u8 (97 + (r2 : Int)), .int .u8 (97 + (i : Int))] 5)) = .ok (.string (strA [97 + r2, 97 + i])) (W'.alloc (.cells #[.int .u8 (97 + (r2 : Int)), .int .u8 (97 + (i : Int))] 5)) := fun W' => hcv _ _ _ ((blk_cell (blk_new W' _) 0).trans rfl) ((blk_cell (blk_new W' _) 1).trans rfl)
        have hcvD : ∀ (W' : World), (convert 47 9 (.slice (some ⟨W'.heap.size, 0, none⟩) 2 2)).run Tryd.prog (W'.alloc (.cells #[.int .u8 (97 + (r2 : Int)), .int .u8 (97 + (i : Int))] 5)).drew = .ok (.string (strA [97 + r2, 97 + i])) (W'.alloc (.cells #[.int .u8 (97 + (r2 : Int)), .int .u8 (97 + (i : Int))] 5)).drew := fun W' => hcv _ _ _ ((blk_cell (blk_new W' _) 0).trans rfl) ((blk_cell (blk_new W' _) 1).trans rfl)
        have HCV := hidP hcv
        clear hcv
        have hl2 := blk_lt hn2
        clear hSS hS hSR hdg HX HR HB hb2 hn2 hlS hlD hD4
        go_upto_region 8 with fail
        go_cut [8] (fun v8 wx => v8 = .string (strA (83 :: (cs ++ [(⟨(K : Int), (r2 : Int), (i : Int), (U : Int)⟩ : CaseD)]).flatMap caseW)) ∧ Below w2.heap.size w2 wx)
        case first =>
          go_region_held (fun w' => w'.cell? ⟨w1.heap.size, 0, none⟩ = some (.int .i64 K) ∧ w'.cell? ⟨w1.heap.size, 1, none⟩ = some (.int .i64 r2) ∧ w'.cell? ⟨w1.heap.size, 2, none⟩ = some (.int .i64 i) ∧ w'.cell? ⟨w1.heap.size, 3, none⟩ = some (.int .i64 U))
            (first | exact ⟨z0, z1, z2, z3⟩ | exact ⟨pw_cell_below (bnew (brefl _) _) z0, pw_cell_below (bnew (brefl _) _) z1, pw_cell_below (bnew (brefl _) _) z2, pw_cell_below (bnew (brefl _) _) z3⟩ | exact ⟨pw_cell_below hb6 z0, pw_cell_below hb6 z1, pw_cell_below hb6 z2, pw_cell_below hb6 z3⟩ | exact ⟨pw_cell_below hb6 (pw_cell_below (bnew (brefl _) _) z0), pw_cell_below hb6 (pw_cell_below (bnew (brefl _) _) z1), pw_cell_below hb6 (pw_cell_below (bnew (brefl _) _) z2), pw_cell_below hb6 (pw_cell_below (bnew (brefl _) _) z3)⟩ | exact ⟨pw_cell_below (bnew (brefl _) _) (pw_cell_below hb6 z0), pw_cell_below (bnew (brefl _) _) (pw_cell_below hb6 z1), pw_cell_below (bnew (brefl _) _) (pw_cell_below hb6 z2), pw_cell_below (bnew (brefl _) _) (pw_cell_below hb6 z3)⟩ | fail)
            (first | (go_at_call 28; refine (HDG.out _).mono ?_; rintro e w6 ⟨t', rfl, _, ht, hb6⟩; obtain rfl := ht (by omega); try (have hc6 := HCV.out w6 w2.heap.size 2 (pw_cell_below hb6 qq0.out) (pw_cell_below hb6 qq1.out))) | fail)
          all_goals
            go_wp2_with fail
            go_meet
            refine ⟨congrArg Value.string HV.out, ?_⟩
            first
              | exact bstep (bnew (brefl w2) _) hb6
              | exact bnew hb6 _
              | exact bstep (bnew (brefl w2) _).drew hb6
              | exact bstep (bnew (brefl w2).drew _) hb6
              | exact (bnew hb6 _).drew
              | exact bnew (bstep (brefl w2).drew hb6) _
              | exact bstep (brefl w2).drew (bnew hb6 _)
              | fail
        case rest =>
        obtain ⟨rfl, hb3⟩ := hcut
        generalize wc = w3 at *
        have HX3 := hidP (blk_below HX2.out hb3)
        have HR3 := hidP (Kd.R_below HR2'.out hb3)
        have HB3 := hidP (bstep HB2.out hb3)
        have hn3 := blk_below HC2.out hb3
        have hz3 : w.heap.size + 1 ≤ w3.heap.size := Nat.le_trans hz2 hb3.size
        clear z0 z1 z2 z3 hb3 HV HDG sK1 wK1 bK0 bK1 bK2 u1 u2 u3 u4 hcvU hcvD HCV t1 t2 t3 t4 t5 t6 qq0 qq1 sS s2 sD sr sSR HX2 HR2' HB2 HC2 hl2
        obtain ⟨z0, z1, z2, z3⟩ := four_cells hn3
        obtain ⟨y0, y1, y2, y3, y4⟩ := five_cells HX3.out
        have hl3 := blk_lt hn3
        have hlx := blk_lt HX3.out
        have hfx := blk_frozen HX3.out 4
        have hcl : (cs.length + 1) * 32 ≤ 140737488355328 := by omega
        have hz3' : w.heap.size + 1 ≤ w3.heap.size := hz3
        have HXB := hidP HX3.out
        have HOC := hidP (fun c (hc : c ∈ cs ++ [(⟨(K : Int), (r2 : Int), (i : Int), (U : Int)⟩ : CaseD)]) => (by
          rcases List.mem_append.1 hc with hc | hc
          · exact HOK.out c hc
          · rw [List.mem_singleton] at hc
            subst hc
            exact HOKn.out : okC c))
        go_wp2_with (at_builtin; go_loud (refine (Kd.R_append kC (w.heap.size + 1) rfl (.tmp 94) (.tmp 96) 35 39 _ 32 rfl Tryd.underlying35 Tryd.infoC rfl (by decide) (by decide) (.slice B i d) cs ⟨K, r2, i, U⟩ (caseC ⟨K, r2, i, U⟩) (fun j => w.heap.size + 1 ≤ j) (fun _ => False) rfl rfl (kC_mkM _ _ _ _) (fun j hj => hj.elim) (fun j hj => Nat.le_trans hz3' hj) HR3.out (Below.refl _ _) hz3' hcl ?_)); intro v7 w7 hR7 hB7' hg7 hat7; obtain ⟨A7, c7, rfl⟩ := Kd.R_slice hR7; have HX7 := hidP (blk_grown HXB.out hg7 (fun e => (by have := HR3.out.1 _ e.symm; omega))); have x7 : w7.cell? ⟨w.heap.size, 4, none⟩ = some _ := (blk_cell HX7.out 4).trans rfl; have xf7 := blk_frozen HX7.out 4; have hlx7 := blk_lt HX7.out; have HOR7 := hidP hR7; have HB7 : Hid (Below w.heap.size w w7) := HB3.out.trans (Keep.below (S := fun j => w.heap.size ≤ j) (.of_grown hg7 (fun j e => (by have := HR3.out.1 j e; omega))) (Nat.le_of_succ_le hz3') (fun j h => h)); have hz7 : w.heap.size + 1 ≤ w7.heap.size := Nat.le_trans hz3' hg7.size; clear hR7 hB7' hat7)
        have hln : (cs ++ [(⟨(K : Int), (r2 : Int), (i : Int), (U : Int)⟩ : CaseD)]).length = i + 1 := by rw [List.length_append, hcs]; rfl
        have HLN := hidP hln
        have hX8 := blk_set HX7.out 4 (.slice A7 (cs ++ [(⟨(K : Int), (r2 : Int), (i : Int), (U : Int)⟩ : CaseD)]).length c7)
        have hR8 : kC.R 39 (w7.setCell ⟨w.heap.size, 4, none⟩ (.slice A7 (cs ++ [(⟨(K : Int), (r2 : Int), (i : Int), (U : Int)⟩ : CaseD)]).length c7)) (w.heap.size + 1) (fun j => w.heap.size + 1 ≤ j) (.slice A7 (cs ++ [(⟨(K : Int), (r2 : Int), (i : Int), (U : Int)⟩ : CaseD)]).length c7) (cs ++ [(⟨(K : Int), (r2 : Int), (i : Int), (U : Int)⟩ : CaseD)]) := Kd.R_far HOR7.out (fun k hk e => by dsimp only at e; omega) _
        have hB8 := (HB7.out.setCell (p := ⟨w.heap.size, 4, none⟩) (Nat.le_refl _) (.slice A7 (cs ++ [(⟨(K : Int), (r2 : Int), (i : Int), (U : Int)⟩ : CaseD)]).length c7))
        rw [hln] at hX8 hR8 hB8
        have HX8 := hidP hX8
        have HR8 := hidP hR8
        have HB8 := hidP hB8
        clear hX8 hR8 hB8 hln
        exact ⟨⟨i + 1, _, A7, c7, by go_num, congrArg Value.string (congrArg strA (by rw [List.flatMap_append, List.flatMap_cons, List.flatMap_nil, List.append_nil])), by omega, HLN.out, HOC, HX8, HR8, HB8, by simp [World.setCell]; omega⟩, by simp [intOf]; omega⟩
      · have hor : ¬ i < n1 ∨ i < n1 ∧ ¬ i < n2 ∨ i < n1 ∧ i < n2 ∧ ¬ i < 6 := by omega
        clear hlt
        rcases hor with q1 | ⟨q1, q2⟩ | ⟨q1, q2, q3⟩
        · have u1 : ¬ (i : Int) < (n1 : Int) := by omega
          have u2 : decide ((i : Int) < (n1 : Int)) = false := decide_eq_false u1
          clear q1
          go_wp2_with fail
          go_meet
          exact ⟨i, cs, B, d, rfl, hi, hcs, HOK, HX, HR, HB, hzr⟩
        · have u1 : (i : Int) < (n1 : Int) := by omega
          have u2 : ¬ (i : Int) < (n2 : Int) := by omega
          have u3 : decide ((i : Int) < (n2 : Int)) = false := decide_eq_false u2
          clear q1 q2
          go_wp2_with fail
          go_meet
          exact ⟨i, cs, B, d, rfl, hi, hcs, HOK, HX, HR, HB, hzr⟩
        · have u1 : (i : Int) < (n1 : Int) := by omega
          have u2 : (i : Int) < (n2 : Int) := by omega
          have u3 : ¬ (i : Int) < 6 := by omega
          have u4 : decide ((i : Int) < 6) = false := decide_eq_false u3
          clear q1 q2 q3
          go_wp2_with fail
          go_meet
          exact ⟨i, cs, B, d, rfl, hi, hcs, HOK, HX, HR, HB, hzr⟩
  case rest =>
  obtain ⟨i, cs, B, d, rfl, hi, hcs, HOK, HX, HR, HB, hzr⟩ := hcut
  generalize wc = w1 at *
  clear hx0 hb0 hz0 HR1 HR2 HN1 HN2 l1 l2 hT1'
  obtain ⟨hlen0, hid, hC⟩ := Kd.R_reads' HR.out
  clear hlen0
  rw [hcs] at hC
  have HCX := hidP hC
  have hS := (flat_len cs fun c hc => (HOK.out c hc).1).2
  have d3 := cases_bad HOK.out (by omega) (T := tailA) (by simp)
  have d4 := cases_bad HOK.out (by omega) (T := tailB) (by simp)
  have d5 := cases_bad HOK.out (by omega) (T := tailC) (by simp)
  have d2 := cases_else2 HOK.out (by omega) hT2
  have d1n : i = 0 → decodeR (strA (83 :: cs.flatMap caseW)) = ([], 1, 5) := fun h => by
    obtain rfl : cs = [] := List.eq_nil_of_length_eq_zero (by omega)
    exact cases_none
  have d1y : 0 < i → decodeR (strA (83 :: cs.flatMap caseW)) = ([⟨21, 0, 0, 0, cs⟩], 0, 0) := fun h => cases_some HOK.out (by omega) (by omega)
  have hDl := decN_len4 T (by omega)
  have g1 := fun w' (hb : Below w.heap.size w w') => decode_any (strA (83 :: cs.flatMap caseW)) w' (by rw [strA_size, List.length_cons]; omega) (HEN.out.below hb).env
  have g2 := fun w' (hb : Below w.heap.size w w') => decode_any (strA (83 :: cs.flatMap caseW ++ [101] ++ decN T)) w' (by rw [strA_size, List.length_append, List.length_append, List.length_cons, List.length_singleton]; omega) (HEN.out.below hb).env
  have g3 := fun w' (hb : Below w.heap.size w w') => decode_any (strA (83 :: cs.flatMap caseW ++ tailA)) w' (by rw [strA_size, List.length_append, List.length_cons, show tailA.length = 6 from rfl]; omega) (HEN.out.below hb).env
  have g4 := fun w' (hb : Below w.heap.size w w') => decode_any (strA (83 :: cs.flatMap caseW ++ tailB)) w' (by rw [strA_size, List.length_append, List.length_cons, show tailB.length = 3 from rfl]; omega) (HEN.out.below hb).env
  have g5 := fun w' (hb : Below w.heap.size w w') => decode_any (strA (83 :: cs.flatMap caseW ++ tailC)) w' (by rw [strA_size, List.length_append, List.length_cons, show tailC.length = 1 from rfl]; omega) (HEN.out.below hb).env
  simp only [d2] at g2
  simp only [d3] at g3
  simp only [d4] at g4
  simp only [d5] at g5
  obtain ⟨⟨D, dt, de⟩, hD⟩ : ∃ D, decodeR (strA (83 :: cs.flatMap caseW)) = D := ⟨_, rfl⟩
  rw [hD] at d1n d1y
  simp only [hD] at g1
  have hlS : (83 :: cs.flatMap caseW).length ≤ 43 := by rw [List.length_cons]; omega
  obtain ⟨S, hSS⟩ : ∃ S, 83 :: cs.flatMap caseW = S := ⟨_, rfl⟩
  simp only [hSS] at g1 g2 g3 g4 g5 hlS ⊢
  have sS : (strA S).size ≤ 43 := by rw [strA_size]; exact hlS
  have sD : (strA (decN T)).size ≤ 4 := by rw [strA_size]; exact hDl
  rw [← show strA S ++ { data := #[101] } ++ strA (decN T) = strA (S ++ [101] ++ decN T) by
    rw [show ({ data := #[101] } : ByteArray) = strA [101] from rfl, strA_app, strA_app]] at g2
  rw [← show strA S ++ { data := #[101, 49, 115, 97, 98, 49] } = strA (S ++ tailA) from strA_app S tailA] at g3
  rw [← show strA S ++ { data := #[115, 97, 49] } = strA (S ++ tailB) from strA_app S tailB] at g4
  rw [← show strA S ++ { data := #[101] } = strA (S ++ tailC) from strA_app S tailC] at g5
  unfold DecPost at g1 g2 g3 g4 g5
  dsimp only [List.length_cons, List.length_nil] at g1 g2 g3 g4 g5
  obtain ⟨N1, hN1⟩ : ∃ N1, D.length = N1 := ⟨_, rfl⟩
  simp only [hN1] at g1
  have hdg := fun w' => rdigits_any (T : Int) (by unfold inI; omega) w'
  unfold DigPost at hdg
  rw [show ((T : Int)).toNat = T from Int.toNat_natCast T] at hdg
  have HD1 : Hid ((i = 0 → de = 5) ∧ (0 < i → D = [⟨21, 0, 0, 0, cs⟩] ∧ de = 0 ∧ N1 = 1)) := by
    refine ⟨fun h => ?_, fun h => ?_⟩
    · have := d1n h; cases this; rfl
    · have := d1y h; cases this; exact ⟨rfl, rfl, hN1.symm⟩
  have HN1 := hidP hN1
  have G1 := hidP g1
  have G2 := hidP g2
  have G3 := hidP g3
  have G4 := hidP g4
  have G5 := hidP g5
  have HDG := hidP hdg
  clear g1 g2 g3 g4 g5 hdg d1n d1y d2 d3 d4 d5 hD hN1 hSS hlS hS hDl hC HR
  go_wp2_with fail
  refine (G1.out _ HB.out).mono ?_
  rintro e w2 ⟨A2, c2, rfl, hv2, hb2⟩
  have HB2 := hidP (bstep HB.out hb2)
  have HX2 := hidP (blk_below HX.out hb2)
  have HC2 := hidP (Kd.C_below HCX.out hb2)
  have HV2 := hidP hv2
  clear hv2 hb2 HB HX HCX G1 hzr
  go_wp2_with fail
  refine (HDG.out _).mono ?_
  rintro e w3 ⟨t3, rfl, _, ht3, hb3⟩
  obtain rfl := ht3 (by omega)
  have HB3 := hidP (bstep HB2.out hb3)
  have HX3 := hidP (blk_below HX2.out hb3)
  have HC3 := hidP (Kd.C_below HC2.out hb3)
  have HV3 := hidP (Kd.R_below HV2.out hb3)
  clear ht3 hb3 HB2 HX2 HC2 HV2 HDG
  go_wp2_with fail
  refine (G2.out _ HB3.out).mono ?_
  rintro e w4 ⟨A4, c4, rfl, hv4, hb4⟩
  have HB4 := hidP (bstep HB3.out hb4)
  have HX4 := hidP (blk_below HX3.out hb4)
  have HC4 := hidP (Kd.C_below HC3.out hb4)
  have HV24 := hidP (Kd.R_below HV3.out hb4)
  have HV4 := hidP hv4
  clear hv4 hb4 HB3 HX3 HC3 HV3 G2
  obtain ⟨x0, x1, x2, x3, x4⟩ := five_cells HX4.out
  have hlx := blk_lt HX4.out
  go_upto_region 13 with fail
  have hb5 := bnew (brefl w4) (.cells #[.int .i64 21, .int .i64 0, .int .i64 0, .int .i64 0, .slice B i d] 37)
  have hy5 := blk_new w4 (.cells #[.int .i64 21, .int .i64 0, .int .i64 0, .int .i64 0, .slice B i d] 37)
  have hz5 : w4.heap.size < (w4.alloc (.cells #[.int .i64 21, .int .i64 0, .int .i64 0, .int .i64 0, .slice B i d] 37)).heap.size := by simp
  generalize w4.alloc (.cells #[.int .i64 21, .int .i64 0, .int .i64 0, .int .i64 0, .slice B i d] 37) = w5 at *
  have HX5 := hidP (blk_below HX4.out hb5)
  have HC5 := hidP (Kd.C_below HC4.out hb5)
  have HY5 := hidP hy5
  have HB5 := hidP hb5
  clear x0 x1 x2 x3 x4 hy5 hb5 hlx
  obtain ⟨x0, x1, x2, x3, x4⟩ := five_cells HX5.out
  have hlx := blk_lt HX5.out
  have hcl1 : (([] : List CaseD).length + i) * 32 ≤ 140737488355328 := by simp; omega
  have hcl2 : (cs.length + 1) * 32 ≤ 140737488355328 := by omega
  have HZ5 := hidP hz5
  have HCS := hidP hcs
  clear hcs hz5
  go_wp2_with (first
    | (at_builtin; refine (Kd.R_append_rows kC w5.heap.size rfl (.const (.slice none 0 0)) (.tmp 117) 35 39 _ 32 rfl Tryd.underlying35 Tryd.infoC rfl (by decide) (by decide) (.slice none 0 0) [] cs B i d (fun j => w5.heap.size ≤ j) (fun _ => False) rfl rfl (Kd.R_nil _ _ _ _ _) HC5.out (fun x c h => (by rw [kC_open h]; exact kC_mkM _ _ _ _)) (fun j hj => hj.elim) (fun j hj => hj) (Below.refl _ _) (Nat.le_refl _) hcl1 ?_); intro v6 w6 hR6 hB6 hg6 hat6; obtain ⟨A6, c6, rfl⟩ := Kd.R_slice hR6; simp only [List.nil_append] at hR6 ⊢; have HR6 := hidP hR6; have HB6 := hidP hB6; clear hR6 hB6 hg6 hat6)
    | (at_builtin; refine (Kd.R_append kC w5.heap.size rfl (.tmp 118) (.tmp 121) 35 39 _ 32 rfl Tryd.underlying35 Tryd.infoC rfl (by decide) (by decide) (.slice A6 cs.length c6) cs ⟨3, 0, 0, T⟩ (caseC ⟨3, 0, 0, T⟩) (fun j => w5.heap.size ≤ j) (fun _ => False) rfl rfl (kC_mkM _ _ _ _) (fun j hj => hj.elim) (fun j hj => Nat.le_trans HB6.out.size hj) HR6.out (Below.refl _ _) HB6.out.size hcl2 ?_); intro v7 w7 hR7 hB7 hg7 hat7; obtain ⟨A7, c7, rfl⟩ := Kd.R_slice hR7; have hb57 : Below w5.heap.size w5 w7 := HB6.out.trans hB7; have HB57 := hidP hb57; have HY7 := hidP (blk_below HY5.out hb57); have y7 : w7.cell? ⟨w4.heap.size, 4, none⟩ = some _ := (blk_cell HY7.out 4).trans rfl; have yf7 := blk_frozen HY7.out 4; have hly := blk_lt HY7.out; have HR7 := hidP hR7; clear hR7 hB7 hg7 hat7 hb57)
    | fail)
  have hb48 : Below w4.heap.size w4 (w7.setCell ⟨w4.heap.size, 4, none⟩ (.slice A7 (cs.length + 1) c7)) := (HB5.out.trans (HB57.out.mono HB5.out.size)).setCell (Nat.le_refl _) _
  have hy8 := blk_set HY7.out 4 (.slice A7 (cs.length + 1) c7)
  have hR8 : kC.R 39 (w7.setCell ⟨w4.heap.size, 4, none⟩ (.slice A7 (cs.length + 1) c7)) w5.heap.size (fun j => w5.heap.size ≤ j) (.slice A7 (cs ++ [(⟨3, 0, 0, (T : Int)⟩ : CaseD)]).length c7) (cs ++ [(⟨3, 0, 0, (T : Int)⟩ : CaseD)]) := Kd.R_far HR7.out (fun k hk e => by dsimp only at e; have := HZ5.out; omega) _
  have hln : (cs ++ [(⟨3, 0, 0, (T : Int)⟩ : CaseD)]).length = cs.length + 1 := by rw [List.length_append]; rfl
  rw [hln] at hR8
  generalize w7.setCell ⟨w4.heap.size, 4, none⟩ (.slice A7 (cs.length + 1) c7) = w8 at *
  obtain ⟨hlen7, hid7, hC7⟩ := Kd.R_reads' hR8
  clear hlen7
  rw [hln] at hC7
  have HLN := hidP hln
  have HB8 := hidP (bstep HB4.out hb48)
  have HX8 := hidP (blk_below HX4.out hb48)
  have HC8 := hidP (Kd.C_below HC4.out hb48)
  have HV28 := hidP (Kd.R_below HV24.out hb48)
  have HV48 := hidP (Kd.R_below HV4.out hb48)
  have HY8 := hidP hy8
  have HCY8 := hidP hC7
  have HID7 := hidP hid7
  clear x0 x1 x2 x3 x4 hlx y7 yf7 hly hb48 hy8 hR8 hln hC7 hid7 HY7 HR7 HB57 HB5 HY5 HC5 HX5 HX4 HC4 HV24 HV4 HB4 HR6 HB6 hcl1 hcl2 HZ5
  have g1 := G3.out _ HB8.out
  have G3' := hidP g1
  clear g1 G3
  go_wp2_with fail
  refine G3'.out.mono ?_
  rintro e w9 ⟨A9, c9, rfl, hv9, hb9⟩
  clear hv9
  have HB9 := hidP (bstep HB8.out hb9)
  have H89 := hidP hb9
  clear hb9
  go_wp2_with fail
  refine (G4.out _ HB9.out).mono ?_
  rintro e w10 ⟨A10, c10, rfl, hv10, hb10⟩
  clear hv10
  have HB10 := hidP (bstep HB9.out hb10)
  have H810 := hidP (bstep H89.out hb10)
  clear hb10 H89 HB9 G4 G3'
  go_wp2_with fail
  refine (G5.out _ HB10.out).mono ?_
  rintro e w11 ⟨A11, c11, rfl, hv11, hb11⟩
  clear hv11
  have HB11 := hidP (bstep HB10.out hb11)
  have H811 := hidP (bstep H810.out hb11)
  clear hb11 H810 HB10 G5
  have hx11 := blk_below HX8.out H811.out
  obtain ⟨x0, x1, x2, x3, x4⟩ := five_cells hx11
  have hlx := blk_lt hx11
  have haw := awake02_any w11 (HEN.out.below HB11.out)
  have HAW := hidP haw
  clear haw hx11
  go_wp2_with fail
  refine HAW.out.mono ?_
  rintro e w12 ⟨rfl, hb12⟩
  have HB12 := hidP (bstep HB11.out hb12)
  have H812 := hidP (bstep H811.out hb12)
  clear hb12 H811 HB11 HAW x0 x1 x2 x3 x4 hlx
  rcases Nat.eq_zero_or_pos i with hi0 | hi0
  · have hde := HD1.out.1 hi0
    have tl : ¬ (0 : Int) < (i : Int) := by omega
    have tl2 : decide ((0 : Int) < (i : Int)) = false := decide_eq_false tl
    have tl3 : ¬ 0 < i := by omega
    subst hde
    clear HD1 hi0
    have hy := blk_below HY8.out H812.out
    obtain ⟨y0, y1, y2, y3, y4⟩ := five_cells hy
    have hly := blk_lt hy
    obtain ⟨A', c', e4, _, hC4⟩ := Kd.R_reads (Kd.R_below HV48.out H812.out)
    cases e4
    have hone := one_reads w12 ⟨21, 0, 0, 0, cs ++ [⟨3, 0, 0, (T : Int)⟩]⟩ A7 c7 (by show (cs ++ [(⟨3, 0, 0, (T : Int)⟩ : CaseD)]).length ≤ c7; rw [HLN.out]; exact HID7.out) (by show kC.C w12 A7 (cs ++ [(⟨3, 0, 0, (T : Int)⟩ : CaseD)]).length (cs ++ [(⟨3, 0, 0, (T : Int)⟩ : CaseD)]); rw [HLN.out]; exact Kd.C_below HCY8.out H812.out)
    have hins := instrs_yes A4 (some ⟨World.heap w12 |>.size, 0, none⟩) c4 1 [⟨21, 0, 0, 0, cs ++ [⟨3, 0, 0, (T : Int)⟩]⟩] [⟨21, 0, 0, 0, cs ++ [⟨3, 0, 0, (T : Int)⟩]⟩] _ (Kd.C_below hC4 (bnew (brefl _) _)) hone rfl
    dsimp only at hins
    rw [HLN.out] at hins
    have HI := hidP hins
    clear hins hone hC4 hy
    go_wp2_with fail
    refine HI.out.mono ?_
    rintro e w20 ⟨rfl, hb20⟩
    have HB20 := hidP (bstep (bnew HB12.out _) hb20)
    clear hb20 HI
    go_wp2
    go_ret
    exact ⟨rfl, HB20.out⟩
  · obtain ⟨hD, hde, hN⟩ := HD1.out.2 hi0
    have tl : (0 : Int) < (i : Int) := by omega
    subst hD hde hN
    clear HD1
    have hx := blk_below HX8.out H812.out
    obtain ⟨x0, x1, x2, x3, x4⟩ := five_cells hx
    have hlx := blk_lt hx
    obtain ⟨A', c', e2, _, hC2⟩ := Kd.R_reads (Kd.R_below HV28.out H812.out)
    cases e2
    have hcs := HCS.out
    have hone := one_reads w12 ⟨21, 0, 0, 0, cs⟩ B d (by show cs.length ≤ d; omega) (by show kC.C w12 B cs.length cs; rw [hcs]; exact Kd.C_below HC8.out H812.out)
    have hins := instrs_yes A2 (some ⟨w12.heap.size, 0, none⟩) c2 1 [⟨21, 0, 0, 0, cs⟩] [⟨21, 0, 0, 0, cs⟩] _ (Kd.C_below hC2 (bnew (brefl _) _)) hone rfl
    dsimp only at hins
    rw [hcs] at hins
    have HI := hidP hins
    clear hins hone hC2 hx hcs
    go_wp2_with fail
    refine HI.out.mono ?_
    rintro e w13 ⟨rfl, hb13⟩
    have HB13 := hidP (bstep (bnew HB12.out _) hb13)
    have H813 := hidP (bstep (bnew H812.out _) hb13)
    clear hb13 HI x0 x1 x2 x3 x4 hlx
    have hy := blk_below HY8.out H813.out
    obtain ⟨y0, y1, y2, y3, y4⟩ := five_cells hy
    have hly := blk_lt hy
    obtain ⟨A', c', e4, _, hC4⟩ := Kd.R_reads (Kd.R_below HV48.out H813.out)
    cases e4
    have hone := one_reads w13 ⟨21, 0, 0, 0, cs ++ [⟨3, 0, 0, (T : Int)⟩]⟩ A7 c7 (by show (cs ++ [(⟨3, 0, 0, (T : Int)⟩ : CaseD)]).length ≤ c7; rw [HLN.out]; exact HID7.out) (by show kC.C w13 A7 (cs ++ [(⟨3, 0, 0, (T : Int)⟩ : CaseD)]).length (cs ++ [(⟨3, 0, 0, (T : Int)⟩ : CaseD)]); rw [HLN.out]; exact Kd.C_below HCY8.out H813.out)
    have hins := instrs_yes A4 (some ⟨World.heap w13 |>.size, 0, none⟩) c4 1 [⟨21, 0, 0, 0, cs ++ [⟨3, 0, 0, (T : Int)⟩]⟩] [⟨21, 0, 0, 0, cs ++ [⟨3, 0, 0, (T : Int)⟩]⟩] _ (Kd.C_below hC4 (bnew (brefl _) _)) hone rfl
    dsimp only at hins
    rw [HLN.out] at hins
    have HI := hidP hins
    clear hins hone hC4 hy
    go_wp2_with fail
    refine HI.out.mono ?_
    rintro e w20 ⟨rfl, hb20⟩
    have HB20 := hidP (bstep (bnew HB13.out _) hb20)
    clear hb20 HI
    go_wp2
    go_ret
    exact ⟨rfl, HB20.out⟩
theorem codeCasesW (W : World) (a0 : Option Addr) (n0 c0 : Nat) (z0 : List Int) (w0 : RowAt W a0 (z0.map (Value.int .i64))) (l0 : z0.length = n0) (b0 : (∀ z ∈ z0, (Lit.int .i64 z).wf = true) ∧ n0 ≤ c0 ∧ c0 ≤ maxLen) (a1 : Option Addr) (n1 c1 : Nat) (z1 : List Int) (w1 : RowAt W a1 (z1.map (Value.int .i64))) (l1 : z1.length = n1) (b1 : (∀ z ∈ z1, (Lit.int .i64 z).wf = true) ∧ n1 ≤ c1 ∧ c1 ≤ maxLen) (a2 : Int) (b2 : -9223372036854775808 ≤ a2 ∧ a2 ≤ 9223372036854775807) (he : EnvK W) :
    Calls Tryd.prog 11 #[.slice a0 n0 c0, .slice a1 n1 c1, .int .i64 a2] W fun e w' => e = .returned (.bool true) ∧ Below W.heap.size W w' := by
  subst l0 l1
  exact codeCases_any a0 a1 c0 c1 z0 z1 a2 W w0 w1 (by have := b0.2; unfold maxLen at this; omega) (by have := b1.2; unfold maxLen at this; omega) he
end Go.Proofs.YtoflhfiegfhkoaaDoor
