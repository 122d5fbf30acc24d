/-
  The walk over package check's Load, and the test that it is awake.
-/
import Derived.Test.YtoflhfiegfhkoaaDoorKLook
namespace Go.Proofs.YtoflhfiegfhkoaaDoor
open Go.RowKit Go.Proofs.YtoflhfiegfhkoaaDoorW.PrintWords
set_option linter.unusedVariables false

def valF (n : Nat) : Nat → List InstrD → Int × Int
  | _, [] => (0, 0)
  | i, x :: r => if lookR x n = 0 then valF n (i + 1) r else ((i : Int) + 1, lookR x n)
/-- Which instruction of a program may not be, and why. -/
def validR (l : List InstrD) : Int × Int := if l.length = 0 then (0, 7) else if 60 < l.length then (0, 3) else valF l.length 0 l
theorem valF_at {n k : Nat} {l : List InstrD} {x : InstrD} (h : l[k]? = some x) : valF n k (l.drop k) = if lookR x n = 0 then valF n (k + 1) (l.drop (k + 1)) else ((k : Int) + 1, lookR x n) := by
  obtain ⟨hk, hc⟩ := List.getElem?_eq_some_iff.1 h
  rw [List.drop_eq_getElem_cons hk, hc]
  rfl
theorem lookR_cases (x : InstrD) (n : Nat) : lookR x n = 0 ∨ lookR x n = 5 ∨ lookR x n = 6 := by
  unfold lookR
  repeat' split
  all_goals simp

set_option maxRecDepth 100000 in
set_option maxHeartbeats 3200000 in
theorem valid_any (A : Option Addr) (d : Nat) (l : List InstrD) (w : World) (hbl : Blanks w) (h : kI.C w A l.length l) (hcs : ∀ x ∈ l, x.cases.length ≤ 9223372036854775807) :
    Calls Tryd.prog 16 #[.slice A l.length d] w fun e w' => e = .returned (.tuple #[.int .i64 (validR l).1, .int .i64 (validR l).2]) ∧ Below w.heap.size w w' := by
  obtain ⟨R, hR⟩ : ∃ R, validR l = R := ⟨_, rfl⟩
  rw [hR]
  have hr := hR.symm
  unfold validR at hr
  have H := hidP h
  have HBL := hidP hbl
  have HCS := hidP hcs
  have hmx := h.2.1
  obtain ⟨n, hn⟩ : ∃ n, l.length = n := ⟨_, rfl⟩
  rw [hn] at hr hmx ⊢
  have HN := hidP hn
  clear hR h hbl hcs hn
  by_cases h0 : n = 0
  · rw [if_pos h0] at hr
    subst hr
    have t0 : ((n : Int) == 0) = true := by simp [h0]
    clear h0
    go_enter Tryd.func16, Tryd.ntmps16
    go_wp2_with fail
    go_ret2
    exact ⟨rfl, brefl _⟩
  · rw [if_neg h0] at hr
    have t0 : ((n : Int) == 0) = false := by simp; omega
    by_cases h60 : 60 < n
    · rw [if_pos h60] at hr
      subst hr
      have t6 : (60 : Int) < (n : Int) := by omega
      clear h0
      go_enter Tryd.func16, Tryd.ntmps16
      go_wp2_with fail
      go_ret2
      exact ⟨rfl, brefl _⟩
    · rw [if_neg h60] at hr
      have t6 : ¬ (60 : Int) < (n : Int) := by omega
      have HRR := hidP hr
      clear h0 hr
      go_enter Tryd.func16, Tryd.ntmps16
      go_wp2_with fail
      go_loopw [18] (fun v18 wr => ∃ k : Nat, v18 = .int .i64 k ∧ k ≤ n ∧ Hid (valF n k (l.drop k) = R) ∧ Below w.heap.size w wr) (fun v18 _ => n - (intOf v18).toNat)
      case atStart => exact ⟨0, rfl, by omega, HRR.out.symm, brefl _⟩
      case round =>
        obtain ⟨k, rfl, hk, HF, hb⟩ := hrel
        obtain ⟨w1, e1⟩ : ∃ w1, w1 = wr := ⟨_, rfl⟩
        subst e1
        by_cases hlt : k < n
        · obtain ⟨x, hx⟩ : ∃ x, l[k]? = some x := ⟨_, List.getElem?_eq_getElem (by rw [HN.out]; exact hlt)⟩
          obtain ⟨b, o, A4, c4, rfl, x0, x1, x2, x3, x4, _, hxc⟩ := instr_at (Kd.C_below H.out hb) k x hx
          have hxs := HCS.out x (List.mem_of_getElem? hx)
          have hst : R = if lookR x n = 0 then valF n (k + 1) (l.drop (k + 1)) else ((k : Int) + 1, lookR x n) := by rw [← valF_at hx]; exact HF.out.symm
          have hlk := fun w2 (hb2 : Below w1.heap.size w1 w2) => look_any' x A4 c4 n w2 ((HBL.out.below hb).below hb2) (Kd.C_below hxc hb2) hxs
          have hcs3 := lookR_cases x n
          obtain ⟨r, hr⟩ : ∃ r, lookR x n = r := ⟨_, rfl⟩
          rw [hr] at hst hcs3
          simp only [hr] at hlk
          obtain ⟨xo, xa, xb, xn, xc⟩ := x
          simp only [instrV] at hlk
          dsimp only at x0 x1 x2 x3 x4
          have HST := hidP hst
          have HLK := hidP hlk
          have hBx := hidP (bnew hb (.cells #[.int .i64 xo, .int .i64 xa, .int .i64 xb, .int .i64 xn, .slice A4 xc.length c4] 37))
          clear hx hst hlk hr hxc hxs
          go_wp2_with fail
          refine (HLK.out _ (bnew (brefl w1) _)).mono ?_
          rintro e w2 ⟨rfl, hb2⟩
          have hB2 := bstep hBx.out hb2
          rcases hcs3 with rfl | rfl | rfl
          · have hF : valF n (k + 1) (l.drop (k + 1)) = R := by rw [HST.out, if_pos rfl]
            have HFF := hidP hF
            have hbr := bnew hB2 (.cells #[.int .i64 0] 54)
            simp only [faultV, if_pos]
            clear hF
            go_wp2_with fail
            go_wp2_with fail
            rename_i hK
            refine hK _ _ ?_
            go_wp2_with fail
            go_roundw
            case rel => exact ⟨k + 1, by go_num, by omega, HFF, hbr⟩
            case measure => simp [intOf]; omega
          · have hF : R = ((k : Int) + 1, 5) := by rw [HST.out, if_neg (by decide)]
            subst hF
            have hbr := fun n => (⟨(bnew hB2 (.cells #[.int .i64 5] 54)).os, (bnew hB2 (.cells #[.int .i64 5] 54)).tape, (bnew hB2 (.cells #[.int .i64 5] 54)).output, (bnew hB2 (.cells #[.int .i64 5] 54)).size, (bnew hB2 (.cells #[.int .i64 5] 54)).block⟩ : Below w.heap.size w ((w2.alloc (.cells #[.int .i64 5] 54)).drewN n))
            rw [show faultV 5 = .iface 54 (.agg #[.int .i64 5]) from rfl]
            go_wp2_with fail
            go_wp2_with fail
            rename_i hK
            refine hK _ _ ?_
            go_wp2_with fail
            go_quiet (fail)
            go_wp2
            go_ret2
            exact ⟨rfl, hbr _⟩
          · have hF : R = ((k : Int) + 1, 6) := by rw [HST.out, if_neg (by decide)]
            subst hF
            have hbr := fun n => (⟨(bnew hB2 (.cells #[.int .i64 6] 54)).os, (bnew hB2 (.cells #[.int .i64 6] 54)).tape, (bnew hB2 (.cells #[.int .i64 6] 54)).output, (bnew hB2 (.cells #[.int .i64 6] 54)).size, (bnew hB2 (.cells #[.int .i64 6] 54)).block⟩ : Below w.heap.size w ((w2.alloc (.cells #[.int .i64 6] 54)).drewN n))
            rw [show faultV 6 = .iface 54 (.agg #[.int .i64 6]) from rfl]
            go_wp2_with fail
            go_wp2_with fail
            rename_i hK
            refine hK _ _ ?_
            go_wp2_with fail
            go_quiet (fail)
            go_wp2
            go_ret2
            exact ⟨rfl, hbr _⟩
        · have hF : R = (0, 0) := by
            rw [← HF.out, List.drop_eq_nil_of_le (by rw [HN.out]; omega)]
            rfl
          subst hF
          go_wp2_with fail
          go_ret2
          exact ⟨rfl, hb⟩
end Go.Proofs.YtoflhfiegfhkoaaDoor
namespace Go.Proofs.YtoflhfiegfhkoaaDoor
open Go.RowKit Go.Proofs.YtoflhfiegfhkoaaDoorW.PrintWords
set_option linter.unusedVariables false

/-- What Decode tells has few cases. -/
theorem choiceF_len (l : List Nat) : ∀ (k q : Nat) (acc cs : List CaseD), q ≤ l.length → acc.length ≤ q → choiceF l k q acc = some cs → cs.length ≤ l.length
  | 0, _, _, _, _, _, h => by cases h
  | k + 1, q, acc, cs, hq, ha, h => by
    unfold choiceF at h
    split at h
    · rename_i hlt
      split at h
      · cases h
      · split at h
        · cases h
        · split at h
          · cases h
          · have hge := fieldsR_ge l (findF (chr l q : Int) 0 casesL).2.1 (q + 1)
            by_cases hle : (fieldsR l (findF (chr l q : Int) 0 casesL).2.1 (q + 1)).q ≤ l.length
            · refine choiceF_len l k _ _ cs hle ?_ h
              rw [List.length_append]
              show acc.length + 1 ≤ _
              omega
            · exfalso
              refine hle ?_
              have hf : ∀ (F : List Nat) (i : Nat) (s : FSt), s.q ≤ l.length → (ffold l i F s).q ≤ l.length := by
                intro F
                induction F with
                | nil => intro i s hs; exact hs
                | cons c r ih =>
                  intro i s hs
                  refine ih _ _ ?_
                  unfold fstep
                  have h1 := adv_le hs
                  have h2 := (runL_le (l.drop s.q) 4).1
                  have h3 := (runL_le (l.drop s.q) 1).1
                  rw [List.length_drop] at h2 h3
                  repeat' split
                  all_goals simp
                  all_goals omega
              exact hf _ 0 ⟨0, 0, 0, true, q + 1⟩ (by show q + 1 ≤ l.length; omega)
    · split at h
      · cases h
      · cases h
        omega
theorem line_cases (L : List Nat) : (lineR L).1.cases.length ≤ L.length := by
  unfold lineR
  split
  · simp [instrZ]
  · split
    · show ((choiceR L (adv L 0)).getD []).length ≤ L.length
      cases h : choiceR L (adv L 0) with
      | none => simp
      | some cs => exact choiceF_len L _ _ [] cs (adv_le (Nat.zero_le _)) (Nat.zero_le _) h
    · simp
theorem decF_cases : ∀ (l : List (List Nat)) (i : Nat) (acc : List InstrD), (∀ x ∈ acc, x.cases.length ≤ 2000) → (∀ L ∈ l, L.length ≤ 2000) → ∀ x ∈ (decF i acc l).1, x.cases.length ≤ 2000
  | [], i, acc, ha, _, x, hx => ha x hx
  | L :: r, i, acc, ha, hl, x, hx => by
    unfold decF at hx
    split at hx
    · refine decF_cases r (i + 1) _ (fun y hy => ?_) (fun M hM => hl M (by simp [hM])) x hx
      rcases List.mem_append.1 hy with hy | hy
      · exact ha y hy
      · rw [List.mem_singleton] at hy
        subst hy
        exact Nat.le_trans (line_cases L) (hl L (by simp))
    · simp at hx
theorem decode_cases (s : ByteArray) : ∀ x ∈ (decodeR s).1, x.cases.length ≤ 2000 := by
  unfold decodeR
  split
  · simp
  · refine decF_cases _ 0 [] (by simp) (fun L hL => ?_)
    obtain ⟨x, hx, rfl⟩ := List.mem_map.1 hL
    exact ((lines_ok s).1 x hx).2.1

/-- A text's program, or why not. -/
def loadR (s : ByteArray) : List InstrD × Int × Int :=
  if (decodeR s).2.2 ≠ 0 then ([], (decodeR s).2.1, (decodeR s).2.2)
  else if (validR (decodeR s).1).2 ≠ 0 then ([], (validR (decodeR s).1).1, (validR (decodeR s).1).2)
  else ((decodeR s).1, 0, 0)

set_option maxRecDepth 100000 in
set_option maxHeartbeats 1600000 in
theorem load_any (s : ByteArray) (w : World) (hs : s.size ≤ 1000000) (he : Env w) : Calls Tryd.prog 18 #[.string s] w (DecPost w (loadR s)) := by
  have hd := decode_any s w hs he
  have hdc := decode_cases s
  obtain ⟨R, hR⟩ : ∃ R, loadR s = R := ⟨_, rfl⟩
  rw [hR]
  have hr := hR.symm
  unfold loadR at hr
  obtain ⟨⟨D, dt, de⟩, hD⟩ : ∃ D, decodeR s = D := ⟨_, rfl⟩
  rw [hD] at hr hd hdc
  dsimp only at hr hdc
  unfold DecPost at hd
  dsimp only at hd
  have HENV := hidP he
  have HD := hidP hd
  have HDC := hidP hdc
  have HRR := hidP hr
  clear hR hD hd hdc he hr
  go_enter Tryd.func18, Tryd.ntmps18
  go_wp2_with fail
  refine HD.out.mono ?_
  rintro e w1 ⟨A, c, rfl, hv1, hb1⟩
  by_cases h1 : de = 0
  · have hr := HRR.out
    rw [if_neg (by simp [h1])] at hr
    have t1 : (de != 0) = false := by simp [h1]
    obtain ⟨A', c', hv, hle, hC⟩ := Kd.R_reads hv1
    cases hv
    have hval := valid_any A c D w1 (HENV.out.below hb1).bl hC (fun x hx => by have := HDC.out x hx; omega)
    obtain ⟨⟨va, ve⟩, hV⟩ : ∃ V, validR D = V := ⟨_, rfl⟩
    rw [hV] at hval hr
    dsimp only at hr
    have HVAL := hidP hval
    have HR := hidP hr
    have HV1 := hidP hv1
    clear hval hr hV hv1 hC h1
    go_wp2_with fail
    refine HVAL.out.mono ?_
    rintro e w2 ⟨rfl, hb2⟩
    by_cases h2 : ve = 0
    · have hR : R = (D, 0, 0) := by rw [HR.out, if_neg (by simp [h2])]
      have t2 : (ve != 0) = false := by simp [h2]
      have HRE := hidP hR
      clear hR h2
      go_wp2
      go_ret3
      rw [HRE.out]
      exact ⟨A, c, rfl, Kd.R_below HV1.out hb2, bstep hb1 hb2⟩
    · have hR : R = ([], va, ve) := by rw [HR.out, if_pos h2]
      have t2 : (ve != 0) = true := by simp [h2]
      have HRE := hidP hR
      clear hR h2
      go_wp2
      go_ret3
      rw [HRE.out]
      exact ⟨none, 0, rfl, Kd.R_nil _ _ _ _ _, bstep hb1 hb2⟩
  · have hR : R = ([], dt, de) := by rw [HRR.out, if_pos h1]
    have t1 : (de != 0) = true := by simp [h1]
    have HRE := hidP hR
    clear hR h1
    go_wp2
    go_ret3
    rw [HRE.out]
    exact ⟨none, 0, rfl, Kd.R_nil _ _ _ _ _, hb1⟩

theorem reps_one {α : Type} {R : α → List Value → Prop} {size : Nat} {p : α} {c : List Value} (hp : R p c) (hc : c.length = size) : Reps R size [p] c := by
  have := (Reps.none R size).snoc hp hc
  simpa using this
/-- A row of instructions that have no cases, as a literal. -/
def plainI (l : List InstrD) : List Value := l.flatMap fun x => instrC x (.slice none 0 0)
theorem reps_plain (w : World) : ∀ (l : List InstrD), (∀ x ∈ l, x.cases = []) → ∀ (done : List InstrD) (cs : List Value), Reps (kI.K w) 5 done cs → Reps (kI.K w) 5 (done ++ l) (cs ++ plainI l)
  | [], _, done, cs, h => by simpa [plainI] using h
  | x :: r, hx, done, cs, h => by
    obtain ⟨o, a, b, n, c⟩ := x
    obtain rfl : c = [] := hx ⟨o, a, b, n, c⟩ (by simp)
    have h1 : kI.K w ⟨o, a, b, n, []⟩ (instrC ⟨o, a, b, n, []⟩ (.slice none 0 0)) := kI_mk w ⟨o, a, b, n, []⟩ (Nat.le_refl _) ⟨rfl, Nat.zero_le _, fun h => by simp at h⟩
    have := reps_plain w r (fun y hy => hx y (by simp [hy])) _ _ (h.snoc h1 rfl)
    rw [List.append_assoc, List.append_assoc] at this
    exact this
theorem plain_reads (w : World) (l : List InstrD) (h : ∀ x ∈ l, x.cases = []) (hl : l.length ≤ 9223372036854775807) : kI.C (w.alloc (.cells (plainI l).toArray 37)) (some ⟨w.heap.size, 0, none⟩) l.length l := by
  have hr := reps_plain (w.alloc (.cells (plainI l).toArray 37)) l h [] [] (Reps.none _ _)
  rw [List.nil_append, List.nil_append] at hr
  refine ⟨rfl, hl, fun _ => ⟨_, rfl, fun j p hj => ?_⟩⟩
  have hlen : j < l.length := (List.getElem?_eq_some_iff.1 hj).1
  refine ⟨_, ?_, hr.2 j p hj, fun i u hi => ?_⟩
  · rw [List.length_take, List.length_drop, hr.1]
    show min 5 (l.length * 5 - j * 5) = 5
    omega
  · have e : (⟨w.heap.size, 0, none⟩ : Addr).add (j * kI.sz + i) = ⟨w.heap.size, 0 + (j * 5 + i), none⟩ := Addr.add_lit _ _ _
    rw [e, Nat.zero_add, cell_of_row _ _ _ (plainI l).toArray 37 (0, 0) (heap_alloc_new w _)]
    rw [List.getElem?_take] at hi
    split at hi
    · rw [List.getElem?_drop] at hi
      simpa using hi
    · cases hi

theorem awk3_load : loadR ⟨#[106, 48]⟩ = ([⟨11, 0, 0, 0, []⟩], 0, 0) := by decide +kernel
theorem awk3_valid : validR [⟨11, 0, 0, 1, []⟩] = (1, 6) := by decide +kernel

set_option maxRecDepth 100000 in
set_option maxHeartbeats 1000000 in
theorem awake03_any (w : World) (he : Env w) : Calls Tryd.prog 15 #[] w fun e w' => e = .returned (.bool true) ∧ Below w.heap.size w w' := by
  have hl := load_any ⟨#[106, 48]⟩ w (by decide) he
  rw [awk3_load] at hl
  have HENV := hidP he
  have HL := hidP hl
  clear hl he
  go_enter Tryd.func15, Tryd.ntmps15
  go_wp2_with fail
  refine HL.out.mono ?_
  rintro e w1 ⟨A, c, rfl, _, hb1⟩
  have hv := valid_any (some ⟨w1.heap.size, 0, none⟩) 1 [⟨11, 0, 0, 1, []⟩] (w1.alloc (.cells (plainI [⟨11, 0, 0, 1, []⟩]).toArray 37)) ((HENV.out.below hb1).below (bnew (brefl w1) _)).bl (plain_reads w1 [⟨11, 0, 0, 1, []⟩] (by simp) (by decide)) (by simp)
  rw [awk3_valid] at hv
  have HV := hidP hv
  clear hv
  go_wp2_with fail
  refine HV.out.mono ?_
  rintro e w2 ⟨rfl, hb2⟩
  go_wp2
  go_ret
  exact ⟨rfl, bstep (bnew hb1 _) hb2⟩
end Go.Proofs.YtoflhfiegfhkoaaDoor
