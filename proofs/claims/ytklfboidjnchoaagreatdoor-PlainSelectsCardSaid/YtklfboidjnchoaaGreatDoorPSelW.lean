/-
  Parts of the proof: PSelW.
-/
import Derived.Test.YtklfboidjnchoaaGreatDoorZ11
import Derived.Test.YtklfboidjnchoaaGreatDoorZ18
namespace Go.Proofs.YtklfboidjnchoaaGreatDoor
open Go.RowKit Go.Proofs.YtklfboidjnchoaaGreatDoorW.PrintWords
set_option linter.unusedVariables false
set_option linter.unusedSimpArgs false
def selA (f : Bool) (j : Nat) : List Nat := if f then [115, 97 + j, 100, 10] else [61, 101, 48, 10]
def selB : List Nat := [109, 97, 49, 10, 109, 98, 49, 10, 109, 99, 49, 10, 61, 100, 55, 10]
def selE : List Nat := [83, 114, 97, 100, 49, 48, 114, 98, 100, 56, 114, 99, 100, 57, 10, 61, 102, 49, 10, 61, 102, 50, 10, 111, 102, 10, 120]
def selP (a b c : Bool) : Nat → List Nat
  | 0 => selB
  | 1 => selB ++ selA a 0
  | 2 => selB ++ selA a 0 ++ selA b 1
  | _ => selB ++ selA a 0 ++ selA b 1 ++ selA c 2
theorem selP_end : ∀ a b c : Bool, selP a b c 3 ++ selE = selT a b c := by decide
theorem selP_succ (a b c : Bool) : ∀ i, i < 3 → selP a b c (i + 1) = selP a b c i ++ selA (selF a b c i) i
  | 0, _ => rfl
  | 1, _ => rfl
  | 2, _ => rfl
theorem selP_len : ∀ a b c : Bool, ∀ i, i < 4 → (selP a b c i).length ≤ 40 := by decide
theorem selS_len (d : Nat) : (selS d).length = 14 := by unfold selS; simp [picksL_len]
theorem selS_in (d : Nat) (hd : d < 16) : ∀ e ∈ selS d, (-9223372036854775808 ≤ e.n ∧ e.n ≤ 9223372036854775807) ∧ (-9223372036854775808 ≤ e.draw ∧ e.draw ≤ 9223372036854775807) := by
  intro e he
  unfold selS at he
  rw [List.mem_append, List.mem_append, List.mem_singleton] at he
  rcases he with (he | rfl) | he
  · exact picksL_in _ (by omega) e he
  · dsimp only; omega
  · exact picksL_in _ (by omega) e he
theorem selF_mod (a b c : Bool) (k : Nat) : selF a b c k = selF a b c (k % 3) := by unfold selF; rw [Nat.mod_mod]
theorem conv_oneS (n : Nat) (hn : n < 256) (b c : Nat) (w : World) (h : w.cell? ⟨b, 0, none⟩ = some (.int .u8 (n : Int))) : (convert 51 9 (.slice (some ⟨b, 0, none⟩) 1 c)).run Tryz.prog w = .ok (.string (strA [n])) w := by
  refine run_convert_bytes_back w _ _ 5 ⟨b, 0, none⟩ c [UInt8.ofNat n] Tryz.underlying51 Tryz.underlying5 Tryz.underlying9 ?_
  intro j hj
  simp at hj
  subst hj
  have e : (⟨b, 0, none⟩ : Addr).add 0 = ⟨b, 0, none⟩ := by simp [Addr.add]
  have e2 : ((UInt8.ofNat n).toNat : Int) = (n : Int) := by
    have : (UInt8.ofNat n).toNat = n := by simp; omega
    rw [this]
  rw [e, h]
  simp only [List.getElem_cons_zero]
  rw [e2]
theorem ints_oneS {ao bo : Option Addr} {c d : Nat} {x : Int} {w : World} (ha : RowAt w ao [.int .i64 x]) (hb : RowAt w bo [.int .i64 x]) :
    Calls Tryz.prog 24 #[.slice ao 1 c, .slice bo 1 d] w fun e w' => e = .returned (.bool true) ∧ Below w.heap.size w w' := by
  have h := plainInt_any ao bo 1 1 c d [x] [x] w ha hb rfl rfl (by decide)
  rw [show decide ([x] = [x]) = true from decide_eq_true rfl] at h
  exact h
theorem cellQ {w w' : World} {p : Addr} {v : Value} (hb : Below w.heap.size w w') (h : w.cell? p = some v) : w'.cell? p = some v := (hb.cell (p := p) (World.block_lt_of_cell? _ _ h)).trans h
def selG (a b c : Bool) (d : Nat) : Nat → Option Nat
  | 0 => none
  | i + 1 => match selG a b c d i with
    | some k => some k
    | none => if selF a b c (d + i) then some ((d + i) % 3) else none
def optI : Option Nat → Int
  | none => -1
  | some k => k
theorem selG_some {a b c : Bool} {d i k : Nat} (h : selG a b c d i = some k) (j : Nat) : selG a b c d (i + j) = some k := by
  induction j with
  | zero => exact h
  | succ j ih => show (match selG a b c d (i + j) with | some k => some k | none => _) = _; rw [ih]
theorem selG_end (a b c : Bool) (d : Nat) : selG a b c d 3 = selW a b c d := by
  unfold selW
  simp only [selG, Nat.add_zero]
  cases selF a b c d <;> cases selF a b c (d + 1) <;> cases selF a b c (d + 2) <;> rfl
theorem selG_lt {a b c : Bool} {d i k : Nat} (h : selG a b c d i = some k) : k < 3 := by
  induction i with
  | zero => cases h
  | succ i ih =>
    unfold selG at h
    split at h
    · rename_i k' hk
      cases h
      exact ih hk
    · split at h
      · cases h
        exact Nat.mod_lt _ (by omega)
      · cases h
set_option maxRecDepth 100000 in
set_option maxHeartbeats 6400000 in
theorem plainSelects_any (a b c : Bool) (d : Int) (w : World) (hbl : Blanks w) :
    Calls Tryz.prog 7 #[.bool a, .bool b, .bool c, .int .i64 d] w fun e w' => e = .returned (.bool true) ∧ Below w.heap.size w w' := by
  obtain ⟨m1, m2, m3⟩ := modN_spec d 16 (by omega) (by omega)
  obtain ⟨q, hk⟩ : ∃ q, modN d 16 = q := ⟨_, rfl⟩
  rw [hk] at m1 m2 m3
  have m1' : (IntKind.u64.wrap d).tmod 16 = (q : Int) := m1
  have hg := sel_good a b c
  have hru := sel_run a b c q m2
  have hv : (validR (codeT (selT a b c))).2 = 0 := hg.2.2.2.2.2
  have hev : (selM a b c q).events.length ≤ 1000000 := runR_few hv (by rw [selS_len]; omega)
  have HPR : Hid (∀ {nl : Nat} {A S : Option Addr} {d ds : Nat} {w : World}, (codeT (selT a b c)).length = nl → Blanks w → kI.C w A (codeT (selT a b c)).length (codeT (selT a b c)) → RowAt w S ((selS q).flatMap entC) →
    Calls Tryz.prog 17 #[.slice A nl d, .slice S 14 ds] w (RunPost w (selM a b c q))) := fun hl hbl hP hS => prun_any hl (selS_len q) hv hbl hP hS (by omega) (selS_in q (by omega))
  have hld := fun w => lload_any hg w
  unfold DecPost at hld
  dsimp only at hld
  obtain ⟨nl, hnl⟩ : ∃ nl, (codeT (selT a b c)).length = nl := ⟨_, rfl⟩
  rw [hnl] at hld
  have HNL := hidP hnl
  generalize selM a b c q = M at *
  have HLD := hidP hld
  have HRU := hidP hru
  have HBL := hidP hbl
  have q0 : (0 : Int) ≤ (q : Int) := by omega
  have q16 : (q : Int) < 16 := by omega
  have Q16 := hidP m2
  clear m1 m2 hk hg hru hbl hv hld hnl
  go_enter Tryz.func7, Tryz.ntmps7
  go_wp2_with fail
  have hfl : ∀ i, i < 3 → (w.alloc (.cells #[.bool a, .bool b, .bool c] 4)).cell? ⟨w.heap.size, i, none⟩ = some (.bool (selF a b c i)) := by
    intro i hi
    have h : i = 0 ∨ i = 1 ∨ i = 2 := by omega
    rcases h with rfl | rfl | rfl <;> go_simp <;> rfl
  have hb0 : Below w.heap.size w (w.alloc (.cells #[.bool a, .bool b, .bool c] 4)) := bnew (brefl w) _
  generalize w.alloc (.cells #[.bool a, .bool b, .bool c] 4) = W0 at *
  have HFL := hidP hfl
  have HB0 := hidP hb0
  clear hfl hb0
  go_loopw [9, 11] (fun v9 v11 wr => ∃ i : Nat, v9 = .string (strA (selP a b c i)) ∧ v11 = .int .i64 i ∧ i ≤ 3 ∧ Below W0.heap.size W0 wr) (fun _ v11 _ => 3 - (intOf v11).toNat)
  case atStart => exact ⟨0, rfl, rfl, by omega, brefl _⟩
  case round =>
    obtain ⟨i, rfl, rfl, hi, hb⟩ := hrel
    have hlen := selP_len a b c i (by omega)
    have hsz := strA_size (selP a b c i)
    by_cases hlt : i < 3
    · have hsu := selP_succ a b c i hlt
      have hc0 := HFL.out i hlt
      have hc : wr.cell? ⟨w.heap.size, i, none⟩ = some (.bool (selF a b c i)) := (hb.cell (p := ⟨w.heap.size, i, none⟩) (World.block_lt_of_cell? _ _ hc0)).trans hc0
      obtain ⟨f, hf⟩ : ∃ f, selF a b c i = f := ⟨_, rfl⟩
      rw [hf] at hc hsu
      obtain ⟨T, hT⟩ : ∃ T, selP a b c i = T := ⟨_, rfl⟩
      rw [hT] at hsz hsu hlen ⊢
      obtain ⟨U, hU⟩ : ∃ U, strA T = U := ⟨_, rfl⟩
      rw [hU] at hsz ⊢
      obtain ⟨sT, hsT⟩ : ∃ sT, U.size = sT := ⟨_, rfl⟩
      have hsl : sT ≤ 40 := by omega
      have HSU := hidP hsu
      have HU := hidP hU
      have lt1 : (i : Int) < 3 := by omega
      have i0 : (0 : Int) ≤ (i : Int) := by omega
      have hu1 : IntKind.u8.wrap (i : Int) = (i : Int) := by rw [IntKind.wrap_u8]; omega
      have hu2 : IntKind.u8.wrap (97 + (i : Int)) = ((97 + i : Nat) : Int) := by rw [IntKind.wrap_u8]; omega
      have hcv := conv_oneS (97 + i) (by omega) wr.heap.size 1 (wr.alloc (.cells #[.int .u8 ((97 + i : Nat) : Int)] 5)) (by go_simp)
      have hen : ((97 + i : Nat) : Int) = 97 + (i : Int) := by omega
      rw [hen] at hcv hu2
      have hs1 := strA_size [97 + i]
      clear hT hsz hlen hsu hc0 hf hU hen
      cases f with
      | true =>
        go_wp2_with fail
        have HB1 := hidP (bnew hb (.cells #[.int .u8 (97 + (i : Int))] 5))
        go_roundw
        case rel => exact ⟨i + 1, by rw [HSU.out, ← HU.out]; show Value.string (strA T ++ strA [115] ++ strA [97 + i] ++ strA [100, 10]) = _; rw [strA_app, strA_app, strA_app]; simp [selA], by go_num, by omega, HB1.out⟩
        case measure => simp [intOf]; omega
      | false =>
        go_wp2_with fail
        go_roundw
        case rel => exact ⟨i + 1, by rw [HSU.out, ← HU.out]; show Value.string (strA T ++ strA [61, 101, 48, 10]) = _; rw [strA_app]; simp [selA], by go_num, by omega, hb⟩
        case measure => simp [intOf]; omega
    · obtain rfl : i = 3 := by omega
      have hen : strA (selP a b c 3) ++ strA selE = strA (selT a b c) := by rw [strA_app, selP_end]
      obtain ⟨U, hU⟩ : ∃ U, strA (selP a b c 3) = U := ⟨_, rfl⟩
      rw [hU] at hsz hen ⊢
      obtain ⟨sT, hsT⟩ : ∃ sT, U.size = sT := ⟨_, rfl⟩
      have hsl : sT ≤ 40 := by omega
      have HLW := hidP (hen ▸ HLD.out wr)
      have HB1 := hidP (bstep HB0.out hb)
      have HBW := hidP hb
      clear hU hsz hlen hen hb
      go_wp2_with fail
      go_at_call 22
      refine HLW.out.mono ?_
      rintro e u3 ⟨L, lc, rfl, hR, hb3⟩
      obtain ⟨A', c', e5, hle, hC⟩ := Kd.R_reads hR
      simp only [Value.slice.injEq] at e5
      obtain ⟨rfl, q5, rfl⟩ := e5
      clear q5 hle
      have HC := hidP hC
      have KB3 := hidP (bstep HB1.out hb3)
      have KW3 := hidP (bstep HBW.out hb3)
      clear hR hC hb3
      go_wp2_with fail
      go_at_call 14
      with_reducible refine (awakeP_any _ (HBL.out.below KB3.out)).mono ?_
      rintro e u4 ⟨rfl, hb4⟩
      have HC4 := hidP (C_keep HC.out hb4)
      have KB4 := hidP (bstep KB3.out hb4)
      have KW4 := hidP (bstep KW3.out hb4)
      clear hb4
      go_wp2_with fail
      go_at_call 23
      with_reducible refine (picks_lit 7 0 7 rfl _ (by omega)).mono ?_
      rintro e u5 ⟨B5, c5, rfl, ho5, hb5⟩
      have KO5 := hidP ho5
      have KB5 := hidP hb5
      clear ho5 hb5
      go_wp2_with (at_builtin; go_loud (refine (wpList_app _ rfl (.tmp 60) (.tmp 63) rfl Tryz.slEnt u4.heap.size (.slice B5 7 c5) 7 ((picksL 7 0).flatMap entC) rfl (owns_below KO5.out (bnew (brefl u5) _)) (some ⟨u5.heap.size, 0, none⟩) 1 1 [.int .i64 1, .int .i64 0, .int .i64 q] rfl 8 rfl (row_new _ [.int .i64 1, .int .i64 0, .int .i64 q] _ _ rfl) rfl (entC_one [(⟨1, 0, q⟩ : EntD)]) (by omega) (by unfold maxLen; omega) (by have := KB5.out.size; simp; omega) ?_)); intro a6 c6 u6 ho6 hg6 _)
      have hB6 : Below u4.heap.size u4 u6 := (bnew KB5.out _).grown hg6 (by have := KB5.out.size; simp; omega) (fun j hj => (KO5.out.lt j hj).1)
      have KO6 := hidP ho6
      have KB6 := hidP hB6
      clear ho6 hg6 hB6
      go_wp2_with fail
      go_at_call 23
      with_reducible refine (picks_lit 6 0 6 rfl _ (by omega)).mono ?_
      rintro e u7 ⟨B7, c7, rfl, ho7, hb7⟩
      have KO7 := hidP ho7
      have KB7 := hidP hb7
      clear ho7 hb7
      go_wp2_with (at_builtin; go_loud (refine (wpList_app _ rfl (.tmp 65) (.tmp 66) rfl Tryz.slEnt u4.heap.size (.slice a6 8 c6) 8 ((picksL 7 0).flatMap entC ++ [.int .i64 1, .int .i64 0, .int .i64 q]) rfl (owns_below KO6.out KB7.out) B7 6 c7 ((picksL 6 0).flatMap entC) rfl 14 rfl (owns_row KO7.out) rfl (entC_one _) (by omega) (by unfold maxLen; omega) (by have := KB6.out.size; have := KB7.out.size; omega) ?_)); intro a8 c8 u8 ho8 hg8 _)
      have hB8 : Below u4.heap.size u4 u8 := (bstep KB6.out KB7.out).grown hg8 (by have := KB6.out.size; have := KB7.out.size; omega) (fun j hj => (KO6.out.lt j hj).1)
      have hS : RowAt u8 a8 ((selS q).flatMap entC) := by
        have := owns_row ho8
        unfold selS
        rw [List.flatMap_append, List.flatMap_append]
        exact this
      have HRW := hidP (HPR.out (d := lc) (ds := c8) HNL.out (HBL.out.below (bstep KB4.out hB8)) (C_keep HC4.out hB8) hS)
      have HBR := hidP (bstep KB4.out hB8)
      have HWR := hidP (bstep KW4.out hB8)
      clear ho8 hg8 hB8 hS
      go_wp2_with fail
      go_at_call 17
      with_reducible refine HRW.out.mono ?_
      rintro e w3 hret
      obtain ⟨ea, ec, sa, sc, rfl, h1, h2, h3⟩ := hret.open
      obtain ⟨ne, hne⟩ : ∃ ne, M.events.length = ne := ⟨_, rfl⟩
      obtain ⟨ns, hns⟩ : ∃ ns, M.steps.length = ns := ⟨_, rfl⟩
      rw [hne, hns]
      have H1 := hidP h1
      rw [hne] at H1
      have HNE := hidP hne
      have HB3 := hidP (bstep HBR.out h3)
      have HW3 := hidP (bstep HWR.out h3)
      have HEV := hidP (hne ▸ hev)
      obtain ⟨oc, hoc⟩ : ∃ oc, M.outcome = oc := ⟨_, rfl⟩
      rw [hoc]
      have HOC := hidP hoc
      clear hoc h1 h2 h3 hret hns hne hev
      go_wp2_with fail
      have hr3 := heap_alloc_new w3 (.cells #[.slice ea ne ec, .int .i64 oc, .slice sa ns sc] 31)
      have hbA : Below w3.heap.size w3 (w3.alloc (.cells #[.slice ea ne ec, .int .i64 oc, .slice sa ns sc] 31)) := bnew (brefl w3) _
      generalize w3.alloc (.cells #[.slice ea ne ec, .int .i64 oc, .slice sa ns sc] 31) = W3 at *
      have hfl3 : ∀ i, i < 3 → W3.cell? ⟨w.heap.size, i, none⟩ = some (.bool (selF a b c i)) := fun i hi => by
        have h0 := HFL.out i hi
        exact ((bstep HW3.out hbA).cell (p := ⟨w.heap.size, i, none⟩) (World.block_lt_of_cell? _ _ h0)).trans h0
      have HR3 := hidP hr3
      have HBA := hidP hbA
      have HF3 := hidP hfl3
      clear hr3 hbA hfl3
      go_loop [17, 18] (fun v17 v18 => ∃ i : Nat, v17 = .int .i64 (optI (selG a b c q i)) ∧ v18 = .int .i64 i ∧ i ≤ 3) (fun _ v18 => 3 - (intOf v18).toNat)
      case atStart => exact ⟨0, rfl, rfl, by omega⟩
      case round =>
        obtain ⟨i, rfl, rfl, hi⟩ := hrel
        have hru := HRU.out
        obtain ⟨r, hr⟩ : ∃ r, selG a b c q i = r := ⟨_, rfl⟩
        rw [hr]
        cases r with
        | none =>
          by_cases hlt : i < 3
          · have hcell := HF3.out ((q + i) % 3) (Nat.mod_lt _ (by omega))
            rw [← selF_mod] at hcell
            have hnx : selG a b c q (i + 1) = if selF a b c (q + i) then some ((q + i) % 3) else none := by
              show (match selG a b c q i with | some k => some k | none => _) = _
              rw [hr]
            obtain ⟨f, hf⟩ : ∃ f, selF a b c (q + i) = f := ⟨_, rfl⟩
            rw [hf] at hcell hnx
            have lt1 : (i : Int) < 3 := by omega
            have i0 : (0 : Int) ≤ (i : Int) := by omega
            have t1 : ((q : Int) + (i : Int)).tmod 3 = (((q + i) % 3 : Nat) : Int) := by rw [Int.tmod_eq_emod_of_nonneg (by omega)]; omega
            obtain ⟨z, hz⟩ : ∃ z, (q + i) % 3 = z := ⟨_, rfl⟩
            have hz3 : z < 3 := by rw [← hz]; exact Nat.mod_lt _ (by omega)
            rw [hz] at hcell hnx t1
            have z0 : (0 : Int) ≤ (z : Int) := by omega
            have z3 : (z : Int) < 3 := by omega
            have HNX := hidP hnx
            show Code.wp _ _ _ _ _
            simp only [optI]
            clear hnx hf hz hr hru
            cases f with
            | true =>
              go_wp2_with fail
              go_round
              case rel => exact ⟨i + 1, by rw [HNX.out]; rfl, by go_num, by omega⟩
              case measure => simp [intOf]; omega
            | false =>
              go_wp2_with fail
              go_round
              case rel => exact ⟨i + 1, by rw [HNX.out]; rfl, by go_num, by omega⟩
              case measure => simp [intOf]; omega
          · obtain rfl : i = 3 := by omega
            have hw : selW a b c q = none := by rw [← selG_end]; exact hr
            rw [hw] at hru
            have hoc : oc = 2 := HOC.out.symm.trans hru.1
            have HR := hidP (⟨hru.1, hru.2⟩ : _ ∧ outsR M.events = [])
            subst hoc
            simp only [optI]
            clear hr hw hru
            have g0 := cell_of_row W3 w3.heap.size 0 _ _ (0, 0) HR3.out
            have g1 := cell_of_row W3 w3.heap.size 1 _ _ (0, 0) HR3.out
            have g2 := cell_of_row W3 w3.heap.size 2 _ _ (0, 0) HR3.out
            simp at g0 g1 g2
            go_wp2_with fail
            go_at_call 21
            with_reducible refine (outs_any ea sa ne ec ns sc 2 M.events W3 ((owns_row H1.out).below HBA.out) HNE.out HEV.out).mono ?_
            rintro e w5 ⟨A, c', rfl, ho5, hb5⟩
            rw [HR.out.2]
            go_wp2_with fail
            go_ret
            exact ⟨rfl, bstep (bstep HB3.out HBA.out) hb5⟩
        | some k =>
          have hk3 := selG_lt hr
          have hw : selW a b c q = some k := by rw [← selG_end, show (3 : Nat) = i + (3 - i) by omega]; exact selG_some hr _
          rw [hw] at hru
          have hoc : oc = 1 := HOC.out.symm.trans hru.1
          subst hoc
          simp only [optI]
          obtain ⟨_, hro⟩ := hru
          clear hr hw
          have g0 := cell_of_row W3 w3.heap.size 0 _ _ (0, 0) HR3.out
          have g1 := cell_of_row W3 w3.heap.size 1 _ _ (0, 0) HR3.out
          have g2 := cell_of_row W3 w3.heap.size 2 _ _ (0, 0) HR3.out
          simp at g0 g1 g2
          obtain ⟨V, hV⟩ : ∃ V : Int, (if k = 0 then (0 : Int) else 2) = V := ⟨_, rfl⟩
          have hX : ∀ W : World, (W.alloc (.cells #[.int .i64 0, .int .i64 2, .int .i64 2] 3)).cell? ⟨W.heap.size, k, none⟩ = some (.int .i64 V) := by
            intro W
            have hk : k = 0 ∨ k = 1 ∨ k = 2 := by omega
            rcases hk with rfl | rfl | rfl <;> subst hV <;> go_simp
          have k0 : (0 : Int) ≤ (k : Int) := by omega
          have k3 : (k : Int) < 3 := by omega
          have hro2 : outsR M.events = [V] := by rw [← hV]; exact hro
          clear hV hro
          by_cases hi3 : i < 3
          · have lt3 : (i : Int) < 3 := by omega
            clear hi3
            have HR := hidP hro2
            have HX := hidP hX
            clear hro2 hk3
            have hout := fun w' (hb : Below W3.heap.size W3 w') => outs_any ea sa ne ec ns sc 1 M.events w' ((owns_row H1.out).below (bstep HBA.out hb)) HNE.out HEV.out
            rw [HR.out] at hout
            have HOUT := hidP hout
            clear hout
            go_wp2_with fail
            have hwl : w3.heap.size < W3.heap.size := blk_lt HR3.out
            have HBB := hidP (bstep HB3.out HBA.out)
            go_region_with (first
              | (go_at_call 21; refine (HOUT.out _ (by first | exact (brefl _).drew | exact bnew (brefl _).drew _ | exact bnew (bnew (brefl _).drew _) _)).mono ?_; rintro e w5 ⟨A, c', rfl, ho5, hb5⟩; (try (refine_lift have x0 : w5.cell? ⟨W3.heap.size, k, none⟩ = some (.int .i64 V) := ?_; ?_; any_goals (refine cellQ hb5 ?_; exact HX.out W3))))
              | (go_at_call 24; refine (ints_oneS (x := V) ?_ ?_).mono ?_; (· first | exact ((owns_row ho5).alloc _).alloc _ | exact (owns_row ho5).alloc _ | exact owns_row ho5); (· first | exact row_new _ _ _ _ rfl | exact row_new _ _ _ _ (by simp) | exact RowAt.below (w := ((W3.alloc _).alloc _).drew) (row_new (W3.alloc (.cells #[.int .i64 0, .int .i64 2, .int .i64 2] 3)) [.int .i64 V] _ _ (by simp)) hb5); rintro e w6 ⟨rfl, hb6⟩)
              | fail)
            all_goals go_wp2_with fail
            all_goals go_ret
            all_goals exact ⟨rfl, by first | exact bstep (bnew (bnew (bstep HBB.out.drew hb5) _) _) hb6 | exact bstep (bnew (bstep (bnew HBB.out.drew _) hb5) _) hb6 | exact bstep (bstep (bnew (bnew HBB.out.drew _) _) hb5) hb6⟩
          · have lt3 : ¬ (i : Int) < 3 := by omega
            clear hi3
            have HR := hidP hro2
            have HX := hidP hX
            clear hro2 hk3
            have hout := fun w' (hb : Below W3.heap.size W3 w') => outs_any ea sa ne ec ns sc 1 M.events w' ((owns_row H1.out).below (bstep HBA.out hb)) HNE.out HEV.out
            rw [HR.out] at hout
            have HOUT := hidP hout
            clear hout
            go_wp2_with fail
            have hwl : w3.heap.size < W3.heap.size := blk_lt HR3.out
            have HBB := hidP (bstep HB3.out HBA.out)
            go_region_with (first
              | (go_at_call 21; refine (HOUT.out _ (by first | exact (brefl _).drew | exact bnew (brefl _).drew _ | exact bnew (bnew (brefl _).drew _) _)).mono ?_; rintro e w5 ⟨A, c', rfl, ho5, hb5⟩; (try (refine_lift have x0 : w5.cell? ⟨W3.heap.size, k, none⟩ = some (.int .i64 V) := ?_; ?_; any_goals (refine cellQ hb5 ?_; exact HX.out W3))))
              | (go_at_call 24; refine (ints_oneS (x := V) ?_ ?_).mono ?_; (· first | exact ((owns_row ho5).alloc _).alloc _ | exact (owns_row ho5).alloc _ | exact owns_row ho5); (· first | exact row_new _ _ _ _ rfl | exact row_new _ _ _ _ (by simp) | exact RowAt.below (w := ((W3.alloc _).alloc _).drew) (row_new (W3.alloc (.cells #[.int .i64 0, .int .i64 2, .int .i64 2] 3)) [.int .i64 V] _ _ (by simp)) hb5); rintro e w6 ⟨rfl, hb6⟩)
              | fail)
            all_goals go_wp2_with fail
            all_goals go_ret
            all_goals exact ⟨rfl, by first | exact bstep (bnew (bnew (bstep HBB.out.drew hb5) _) _) hb6 | exact bstep (bnew (bstep (bnew HBB.out.drew _) hb5) _) hb6 | exact bstep (bstep (bnew (bnew HBB.out.drew _) _) hb5) hb6⟩
theorem plainSelectsW (W : World) (a0 a1 a2 : Bool) (a3 : Int) (b3 : -9223372036854775808 ≤ a3 ∧ a3 ≤ 9223372036854775807) (he : Env W) :
    Calls Tryz.prog 7 #[.bool a0, .bool a1, .bool a2, .int .i64 a3] W fun e w' => e = .returned (.bool true) ∧ Below W.heap.size W w' := plainSelects_any a0 a1 a2 a3 W he.bl
end Go.Proofs.YtklfboidjnchoaaGreatDoor
