/-
  Parts of the proof: PPasW.
-/
import Derived.Test.YtklfboidjnchoaaGreatDoorZ11
import Derived.Test.YtklfboidjnchoaaGreatDoorZ18
import Derived.Test.YtklfboidjnchoaaGreatDoorPBoxT
namespace Go.Proofs.YtklfboidjnchoaaGreatDoor
open Go.RowKit Go.Proofs.YtklfboidjnchoaaGreatDoorW.PrintWords
set_option linter.unusedVariables false
set_option linter.unusedSimpArgs false
theorem int_at {w : World} {A : Option Addr} {l : List Int} (h : RowAt w A (l.map (Value.int .i64))) {i : Nat} {x : Int} (hi : l[i]? = some x) : ∃ b o, A = some ⟨b, o, none⟩ ∧ w.cell? ⟨b, o + i, none⟩ = some (.int .i64 x) := by
  obtain ⟨b, o, rfl, hc⟩ := h.addr (by rw [List.length_map]; have := lt_of_some hi; omega)
  exact ⟨b, o, rfl, hc _ _ (by rw [List.getElem?_map, hi]; rfl)⟩
theorem outsR_few (es : List EvP) : (outsR es).length ≤ es.length := by
  unfold outsR
  rw [List.length_map]
  exact List.length_filter_le _ _
set_option maxRecDepth 100000 in
set_option maxHeartbeats 3200000 in
theorem plainPasses_any (a b d : Int) (w : World) (hbl : Blanks w) :
    Calls Tryz.prog 4 #[.int .i64 a, .int .i64 b, .int .i64 d] w fun e w' => e = .returned (.bool true) ∧ Below w.heap.size w w' := by
  obtain ⟨m1, m2, m3⟩ := modN_spec a 4 (by omega) (by omega)
  obtain ⟨k1, k2, k3⟩ := modN_spec b 10 (by omega) (by omega)
  obtain ⟨n1, n2, n3⟩ := modN_spec d 900 (by omega) (by omega)
  obtain ⟨p, hp⟩ : ∃ p, modN a 4 = p := ⟨_, rfl⟩
  obtain ⟨k, hk⟩ : ∃ k, modN b 10 = k := ⟨_, rfl⟩
  obtain ⟨q, hq⟩ : ∃ q, modN d 900 = q := ⟨_, rfl⟩
  rw [hp] at m1 m2 m3
  rw [hk] at k1 k2 k3
  rw [hq] at n1 n2 n3
  have m1' : (IntKind.u64.wrap a).tmod 4 = (p : Int) := m1
  have k1' : (IntKind.u64.wrap b).tmod 10 = (k : Int) := k1
  have n1' : (IntKind.u64.wrap d).tmod 900 = (q : Int) := n1
  have hsz : (pasT p q).size ≤ 100 := by rw [pasT_eq, strA_size]; have := decN_four (n := p) (by omega); have := decN_four (n := q) (by omega); simp only [List.length_append, List.length_cons, List.length_nil]; omega
  have hrn : ∀ w, Blanks w → Calls Tryz.prog 20 #[.string (pasT p q), .int .i64 (12 * (1 + (k : Int)) + 40)] w (RunPost w (runR (passL p q) (picksL (12 * (k + 1) + 40) 0))) := by
    have e : (12 * (1 + (k : Int)) + 40) = ((12 * (k + 1) + 40 : Nat) : Int) := by omega
    rw [e]
    exact fun w hbl => lrun_any (pas_load p q m2 n2) (pas_valid p q m2 n2) (by omega) (12 * (k + 1) + 40) (by omega) w hbl
  obtain ⟨r1, r2, r3⟩ := pass_law p q (k + 1) (by omega) (by omega) (by omega)
  have hev := runR_few (pas_valid p q m2 n2) (s := picksL (12 * (k + 1) + 40) 0) (by rw [picksL_len]; omega)
  generalize runR (passL p q) (picksL (12 * (k + 1) + 40) 0) = M at *
  have hsz1 := decB_le p (by omega)
  have hsz2 := decB_le q (by omega)
  have hd1 := fun w => digits_any p (by omega) w
  have hd2 := fun w => digits_any q (by omega) w
  unfold pasT at hrn
  obtain ⟨P, hP⟩ : ∃ P, decB p = P := ⟨_, rfl⟩
  obtain ⟨Q, hQ⟩ : ∃ Q, decB q = Q := ⟨_, rfl⟩
  simp only [hP] at hrn hsz1 hd1
  simp only [hQ] at hrn hsz2 hd2
  obtain ⟨sp, hsp⟩ : ∃ sp, P.size = sp := ⟨_, rfl⟩
  obtain ⟨sq, hsq⟩ : ∃ sq, Q.size = sq := ⟨_, rfl⟩
  rw [hsp] at hsz1
  rw [hsq] at hsz2
  have HD1 := hidP hd1
  have HD2 := hidP hd2
  have HRN := hidP hrn
  have HR := hidP (⟨r1, r2, r3⟩ : _ ∧ _ ∧ _)
  have HBL := hidP hbl
  have q0 : (0 : Int) ≤ (q : Int) := by omega
  have q1 : (q : Int) < 900 := by omega
  have k0 : (0 : Int) ≤ (k : Int) := by omega
  have k4 : (k : Int) < 10 := by omega
  clear hP hQ m1 n1 k1 hp hq hk hrn r1 r2 r3 hbl hd1 hd2 hsz
  go_enter Tryz.func4, Tryz.ntmps4
  go_upto_region 5 with (first | (go_at_call 19; with_reducible refine (HD1.out _).mono ?_; rintro e w1 ⟨rfl, hb1⟩) | (go_at_call 19; with_reducible refine (HD2.out _).mono ?_; rintro e w2 ⟨rfl, hb2⟩) | fail)
  have hb0 : Below w.heap.size w w2 := bstep hb1 hb2
  have HB0 := hidP hb0
  have HRW := hidP (HRN.out w2 (HBL.out.below hb0))
  clear hb1 hb2 hb0
  go_wp2_with fail
  go_at_call 20
  refine HRW.out.mono ?_
  rintro e w3 hret
  obtain ⟨ea, ec, sa, sc, rfl, h1, h2, h3⟩ := hret.open
  rw [HR.out.1]
  obtain ⟨ne, hne⟩ : ∃ ne, M.events.length = ne := ⟨_, rfl⟩
  obtain ⟨ns, hns⟩ : ∃ ns, M.steps.length = ns := ⟨_, rfl⟩
  rw [hne, hns]
  have H1 := hidP h1
  rw [hne] at H1
  have HNE := hidP hne
  have HB3 := hidP (bstep HB0.out h3)
  have HEV := hidP (hne ▸ hev)
  clear h1 h2 h3 hret hne hns hev
  go_wp2_with fail
  go_at_call 21
  with_reducible refine (outs_any ea sa ne ec ns sc 0 M.events _ ((owns_row H1.out).below (bnew (brefl w3) _)) HNE.out HEV.out).mono ?_
  rintro e w5 ⟨A, c, rfl, ho5, hb5⟩
  have hr4 := (hb5.block w3.heap.size (by simp)).trans (heap_alloc_new w3 (.cells #[.slice ea ne ec, .int .i64 0, .slice sa ns sc] 31))
  have g1 := cell_of_row w5 w3.heap.size 1 _ _ (0, 0) hr4
  simp at g1
  have hll := outsR_few M.events
  rw [HNE.out] at hll
  have hr2 := HR.out.2.1
  obtain ⟨nl, hnl⟩ : ∃ nl, (outsR M.events).length = nl := ⟨_, rfl⟩
  rw [hnl] at hll hr2 ho5 ⊢
  have hle := HEV.out
  have HRO := hidP (owns_row ho5)
  have HNL := hidP hnl
  have HB5 := hidP (bstep (bnew HB3.out _) hb5)
  have hll2 : nl ≤ 1000000 := by omega
  have t7 : ¬ ((nl : Int) < 1 + (k : Int)) := by omega
  clear hr4 ho5 hb5 hnl hle hll hr2
  go_wp2_with fail
  go_loop [10] (fun v => ∃ i : Nat, v = .int .i64 i ∧ i ≤ nl) (fun v => nl - (intOf v).toNat)
  case atStart => exact ⟨0, rfl, by omega⟩
  case round =>
    obtain ⟨i, rfl, hi⟩ := hrel
    by_cases hlt : i < nl
    · obtain ⟨x, hx⟩ : ∃ x, (outsR M.events)[i]? = some x := ⟨_, List.getElem?_eq_getElem (by rw [HNL.out]; omega)⟩
      obtain ⟨b, o, rfl, x0⟩ := int_at HRO.out hx
      have hxe := HR.out.2.2 i x hx
      subst hxe
      have lt1 : (i : Int) < (nl : Int) := by omega
      clear hx
      go_wp2_with fail
      go_round
      case rel => exact ⟨i + 1, by go_num, by omega⟩
      case measure => simp [intOf]; omega
    · obtain rfl : i = nl := by omega
      go_wp2_with fail
      go_at_call 14
      with_reducible refine (awakeP_any _ (HBL.out.below HB5.out)).mono ?_
      rintro e w6 ⟨rfl, hb6⟩
      go_wp2
      go_ret
      exact ⟨rfl, bstep HB5.out hb6⟩
theorem plainPassesW (W : World) (a0 : Int) (b0 : -9223372036854775808 ≤ a0 ∧ a0 ≤ 9223372036854775807) (a1 : Int) (b1 : -9223372036854775808 ≤ a1 ∧ a1 ≤ 9223372036854775807) (a2 : Int) (b2 : -9223372036854775808 ≤ a2 ∧ a2 ≤ 9223372036854775807) (he : Env W) :
    Calls Tryz.prog 4 #[.int .i64 a0, .int .i64 a1, .int .i64 a2] W fun e w' => e = .returned (.bool true) ∧ Below W.heap.size W w' := plainPasses_any a0 a1 a2 W he.bl
end Go.Proofs.YtklfboidjnchoaaGreatDoor
