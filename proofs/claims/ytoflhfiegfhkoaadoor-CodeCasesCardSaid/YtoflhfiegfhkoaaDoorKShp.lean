/-
  The walk over package check's shaped.
-/
import Derived.Test.YtoflhfiegfhkoaaDoorKChk
import Derived.Test.YtoflhfiegfhkoaaDoorKEnv
namespace Go.Proofs.YtoflhfiegfhkoaaDoor
open Go.RowKit Go.Proofs.YtoflhfiegfhkoaaDoorW.PrintWords
set_option linter.unusedVariables false

def hasB : ByteArray := ⟨#[97, 110, 32, 97, 98, 32, 97, 98, 32, 97, 110, 32, 97, 98, 32, 97, 98, 32, 97, 32, 97, 98, 32, 97, 98, 32, 108, 32, 108, 32, 97, 108, 32, 97, 32, 97, 110, 32, 97, 98, 32, 97, 98, 32, 97, 98, 32, 97, 110, 32, 97, 110, 32, 97, 110, 32, 115, 32, 45]⟩
def hasL : List (List Nat) := [[97, 110], [97, 98], [97, 98], [97, 110], [97, 98], [97, 98], [97], [97, 98], [97, 98], [108], [108], [97, 108], [97], [97, 110], [97, 98], [97, 98], [97, 98], [97, 110], [97, 110], [97, 110], [115], [45]]
theorem has_of : FieldsOf hasB hasL where
  eq := toL_inj _ _ (by decide +kernel)
  len := by decide +kernel
  asc := fun j b h => by
    have : ∀ b ∈ hasB.data.toList, b.toNat < 128 := by decide +kernel
    exact this b (List.mem_of_getElem? h)
  size := by decide
  few := by decide
  each := by decide +kernel
/-- Is a sign among some? -/
def ctn (f : List UInt8) (c : UInt8) : Bool := decide (0 ≤ Lib.indexByte f c)
def hasF (op : Int) : List UInt8 := (strA (hasL.getD (op - 1).toNat [])).data.toList
def shapedP (x : InstrD) : Bool :=
  if x.op < 1 ∨ 22 < x.op then false
  else regOk x.a (ctn (hasF x.op) 97) && regOk x.b (ctn (hasF x.op) 98) && !(!(x.n == 0) && !Lib.containsAny (hasF x.op) [110, 108]) && withinOk x.n (boundOf x.op) && (if x.op = 21 then casesOk x.cases else x.cases.length == 0)

set_option maxRecDepth 100000 in
set_option maxHeartbeats 6400000 in
theorem shaped_any (x : InstrD) (A : Option Addr) (d : Nat) (w : World) (hbl : Blanks w) (hc : kC.C w A x.cases.length x.cases) (hcl : x.cases.length ≤ 9223372036854775807) :
    Calls Tryd.prog 47 #[instrV x (.slice A x.cases.length d)] w fun e w' => e = .returned (.bool (shapedP x)) ∧ Below w.heap.size w w' := by
  obtain ⟨op, xa, xb, xn, cs⟩ := x
  dsimp only at hc hcl
  simp only [instrV]
  obtain ⟨Z, hZ⟩ : ∃ Z, shapedP ⟨op, xa, xb, xn, cs⟩ = Z := ⟨_, rfl⟩
  rw [hZ]
  have hb1 := bnew (brefl w) (.cells #[.int .i64 op, .int .i64 xa, .int .i64 xb, .int .i64 xn, .slice A cs.length d] 37)
  have hn1 := blk_new w (.cells #[.int .i64 op, .int .i64 xa, .int .i64 xb, .int .i64 xn, .slice A cs.length d] 37)
  have hfl := fun w1 (hb : Blanks w1) => Tryd.strings_Fields_laid hasB w1 (by have := has_of.size; omega) has_of.asc hb
  rw [has_of.eq, has_of.len] at hfl
  have h22 : hasL.length = 22 := by decide
  rw [h22] at hfl
  have HFL := hidP (hfl _ (hbl.below hb1))
  have HC := hidP hc
  have hu := hZ.symm
  unfold shapedP at hu
  dsimp only at hu
  clear hfl h22 hc hZ hbl
  go_enter Tryd.func47, Tryd.ntmps47
  go_wp2_with fail
  generalize w.alloc (.cells #[.int .i64 op, .int .i64 xa, .int .i64 xb, .int .i64 xn, .slice A cs.length d] 37) = w1 at *
  refine HFL.out.mono ?_
  rintro e w2 ⟨rfl, rfl⟩
  have hrow := RowAt.new w1 (hasL.map fun P => Value.string (strA P)) 9
  have hb12 := bnew (brefl w1) (.cells (hasL.map fun P => Value.string (strA P)).toArray 9)
  generalize w1.alloc (.cells (hasL.map fun P => Value.string (strA P)).toArray 9) = w2 at *
  have hb2 := bstep hb1 hb12
  have hn2 := blk_below hn1 hb12
  have HC2 := hidP (Kd.C_below HC.out hb2)
  clear hn1 hb1 hb12 HFL
  have hcells : w2.cell? ⟨w.heap.size, 0, none⟩ = some _ ∧ w2.cell? ⟨w.heap.size, 1, none⟩ = some _ ∧ w2.cell? ⟨w.heap.size, 2, none⟩ = some _ ∧ w2.cell? ⟨w.heap.size, 3, none⟩ = some _ ∧ w2.cell? ⟨w.heap.size, 4, none⟩ = some _ := ⟨(blk_cell hn2 0).trans rfl, (blk_cell hn2 1).trans rfl, (blk_cell hn2 2).trans rfl, (blk_cell hn2 3).trans rfl, (blk_cell hn2 4).trans rfl⟩
  obtain ⟨x0, x1, x2, x3, x4⟩ := hcells
  by_cases hop : op < 1 ∨ 22 < op
  · rw [if_pos hop] at hu
    subst hu
    have h2 : op < 1 ∨ ¬ op < 1 ∧ (22 : Int) < op := by omega
    clear hop
    rcases h2 with t1 | ⟨t1, t2⟩
    · go_wp2_with fail
      go_ret
      exact ⟨rfl, hb2⟩
    · go_wp2_with fail
      go_ret
      exact ⟨rfl, hb2⟩
  · rw [if_neg hop] at hu
    obtain ⟨k, rfl⟩ : ∃ k : Nat, op = (k : Int) + 1 := ⟨(op - 1).toNat, by omega⟩
    have hk : k < 22 := by omega
    obtain ⟨P, hP⟩ : ∃ P, hasL[k]? = some P := ⟨_, List.getElem?_eq_getElem (show k < hasL.length from hk)⟩
    have cx : w2.cell? ⟨w1.heap.size, 0 + k, none⟩ = some (.string (strA P)) := hrow.some k _ (by rw [List.getElem?_map, hP]; rfl)
    rw [Nat.zero_add] at cx
    have hPa := (has_of.each P (List.mem_of_getElem? hP)).2
    have hF : hasF ((k : Int) + 1) = (strA P).data.toList := by
      unfold hasF
      rw [show ((k : Int) + 1 - 1).toNat = k by omega, List.getD_eq_getElem?_getD, hP]
      rfl
    rw [hF] at hu
    have hPs : (strA P).size ≤ 100 := by rw [strA_size]; exact hPa.2
    have hasc : ∀ (j : Nat) b, (strA P).data.toList[j]? = some b → b.toNat < 128 := by
      intro j b hj
      have : b ∈ P.map UInt8.ofNat := List.mem_of_getElem? hj
      obtain ⟨q, hq, rfl⟩ := List.mem_map.1 this
      have := hPa.1 q hq
      simp
      omega
    have hnl : ∀ (j : Nat) b, (⟨#[110, 108]⟩ : ByteArray).data.toList[j]? = some b → b.toNat < 128 := by
      intro j b hj
      have h2 : ∀ b ∈ (⟨#[110, 108]⟩ : ByteArray).data.toList, b.toNat < 128 := by decide
      exact h2 b (List.mem_of_getElem? hj)
    have hany := fun w => Tryd.strings_ContainsAny_laid (strA P) ⟨#[110, 108]⟩ w (by omega) (by decide) hasc hnl
    have hca := fun w => Tryd.strings_Contains_one (strA P) 97 w
    have hcb := fun w => Tryd.strings_Contains_one (strA P) 98 w
    obtain ⟨FA, hFA⟩ : ∃ b, ctn (strA P).data.toList 97 = b := ⟨_, rfl⟩
    obtain ⟨FB, hFB⟩ : ∃ b, ctn (strA P).data.toList 98 = b := ⟨_, rfl⟩
    obtain ⟨FN, hFN⟩ : ∃ b, Lib.containsAny (strA P).data.toList [110, 108] = b := ⟨_, rfl⟩
    have e97 : decide (0 ≤ Lib.indexByte (strA P).data.toList 97) = FA := hFA
    have e98 : decide (0 ≤ Lib.indexByte (strA P).data.toList 98) = FB := hFB
    have eN : Lib.containsAny (strA P).data.toList (⟨#[110, 108]⟩ : ByteArray).data.toList = FN := hFN
    rw [e97] at hca
    rw [e98] at hcb
    rw [eN] at hany
    rw [hFA, hFB, hFN] at hu
    have g1 := fun w => creg_any xa FA w
    have g2 := fun w => creg_any xb FB w
    have g4 := fun w => cbound_any ((k : Int) + 1) w
    obtain ⟨BD, hBD⟩ : ∃ b, boundOf ((k : Int) + 1) = b := ⟨_, rfl⟩
    rw [hBD] at hu g4
    have g3 := fun w => cwithin_any xn BD w
    obtain ⟨R1, hR1⟩ : ∃ b, regOk xa FA = b := ⟨_, rfl⟩
    obtain ⟨R2, hR2⟩ : ∃ b, regOk xb FB = b := ⟨_, rfl⟩
    obtain ⟨W, hW⟩ : ∃ b, withinOk xn BD = b := ⟨_, rfl⟩
    rw [hR1] at g1 hu
    rw [hR2] at g2 hu
    rw [hW] at g3 hu
    obtain ⟨S, hs⟩ : ∃ S, strA P = S := ⟨_, rfl⟩
    rw [hs] at cx hca hcb hany
    have HU := hidP hu
    have G1 := hidP g1
    have G2 := hidP g2
    have G3 := hidP g3
    have G4 := hidP g4
    have HCA := hidP hca
    have HCB := hidP hcb
    have HANY := hidP hany
    have t1 : ¬ (k : Int) + 1 < 1 := by omega
    have t2 : ¬ (22 : Int) < (k : Int) + 1 := by omega
    have t3 : (k : Int) < 22 := by omega
    have l1 := blk_lt hn2
    have HN2 := hidP hn2
    clear hu g1 g2 g3 g4 hca hcb hany hop hP hPa hF hPs hasc hFA hFB hFN e97 e98 eN hBD hR1 hR2 hW hs hn2 hrow x0 x1 x2 x3 x4 hnl
    have x0 : w2.cell? ⟨w.heap.size, 0, none⟩ = some _ := (blk_cell HN2.out 0).trans rfl
    go_wp2_with fail
    refine (HANY.out _).mono ?_
    rintro e w3 ⟨rfl, hb3⟩
    have hB3 := bstep hb2 hb3
    have HN3 := hidP (blk_below HN2.out hb3)
    have HC3 := hidP (Kd.C_below HC2.out hb3)
    obtain ⟨y0, y1, y2, y3, y4⟩ := (⟨(blk_cell HN3.out 0).trans rfl, (blk_cell HN3.out 1).trans rfl, (blk_cell HN3.out 2).trans rfl, (blk_cell HN3.out 3).trans rfl, (blk_cell HN3.out 4).trans rfl⟩ : w3.cell? ⟨w.heap.size, 0, none⟩ = some _ ∧ w3.cell? ⟨w.heap.size, 1, none⟩ = some _ ∧ w3.cell? ⟨w.heap.size, 2, none⟩ = some _ ∧ w3.cell? ⟨w.heap.size, 3, none⟩ = some _ ∧ w3.cell? ⟨w.heap.size, 4, none⟩ = some _)
    have hD : ∀ n, Below w.heap.size w (w3.drewN n) := fun n => ⟨hB3.os, hB3.tape, hB3.output, hB3.size, hB3.block⟩
    clear x0 cx
    cases R1
    ·
      have hz : Z = false := by rw [HU.out]; simp
      subst hz
      go_wp2_with fail
      go_quiet (first | (go_at_call 71; with_reducible exact Calls.quiet_of_same (HCA.out _)) | (go_at_call 71; with_reducible exact Calls.quiet_of_same (HCB.out _)) | (go_at_call 70; with_reducible exact Calls.quiet_of_same (G1.out _)) | (go_at_call 70; with_reducible exact Calls.quiet_of_same (G2.out _)) | (go_at_call 73; with_reducible exact Calls.quiet_of_same (G4.out _)) | (go_at_call 72; with_reducible exact Calls.quiet_of_same (G3.out _)))
      go_wp2
      go_ret
      exact ⟨rfl, hD _⟩
    cases R2
    ·
      have hz : Z = false := by rw [HU.out]; simp
      subst hz
      go_wp2_with fail
      go_quiet (first | (go_at_call 71; with_reducible exact Calls.quiet_of_same (HCA.out _)) | (go_at_call 71; with_reducible exact Calls.quiet_of_same (HCB.out _)) | (go_at_call 70; with_reducible exact Calls.quiet_of_same (G1.out _)) | (go_at_call 70; with_reducible exact Calls.quiet_of_same (G2.out _)) | (go_at_call 73; with_reducible exact Calls.quiet_of_same (G4.out _)) | (go_at_call 72; with_reducible exact Calls.quiet_of_same (G3.out _)))
      go_wp2
      go_ret
      exact ⟨rfl, hD _⟩
    have HZW : W = false → Z = false := fun h => by rw [HU.out, h]; simp
    by_cases hz0 : xn = 0
    · have t0 : (xn == 0) = true := by simp [hz0]
      have t0' : (xn != 0) = false := by simp [hz0]
      cases W
      · have hz : Z = false := HZW rfl
        subst hz
        clear hz0 HZW
        go_wp2_with fail
        go_quiet (first | (go_at_call 71; with_reducible exact Calls.quiet_of_same (HCA.out _)) | (go_at_call 71; with_reducible exact Calls.quiet_of_same (HCB.out _)) | (go_at_call 70; with_reducible exact Calls.quiet_of_same (G1.out _)) | (go_at_call 70; with_reducible exact Calls.quiet_of_same (G2.out _)) | (go_at_call 73; with_reducible exact Calls.quiet_of_same (G4.out _)) | (go_at_call 72; with_reducible exact Calls.quiet_of_same (G3.out _)))
        go_wp2
        go_ret
        exact ⟨rfl, hD _⟩
      · have hz : Z = (if (k : Int) + 1 = 21 then casesOk cs else cs.length == 0) := by rw [HU.out, t0]; simp
        clear HZW hz0
        by_cases h21 : (k : Int) + 1 = 21
        · rw [if_pos h21] at hz
          have t21 : ((k : Int) + 1 == 21) = true := by simp; omega
          subst hz
          clear h21
          go_wp2_with fail
          go_quiet (first | (go_at_call 71; with_reducible exact Calls.quiet_of_same (HCA.out _)) | (go_at_call 71; with_reducible exact Calls.quiet_of_same (HCB.out _)) | (go_at_call 70; with_reducible exact Calls.quiet_of_same (G1.out _)) | (go_at_call 70; with_reducible exact Calls.quiet_of_same (G2.out _)) | (go_at_call 73; with_reducible exact Calls.quiet_of_same (G4.out _)) | (go_at_call 72; with_reducible exact Calls.quiet_of_same (G3.out _)))
          have hC4 : kC.C (w3.drewN nq) A cs.length cs := HC3.out
          have HD := hidP (hD nq)
          have z0 : (w3.drewN nq).cell? ⟨w.heap.size, 0, none⟩ = _ := y0
          have z4 : (w3.drewN nq).cell? ⟨w.heap.size, 4, none⟩ = _ := y4
          generalize w3.drewN nq = w4 at *
          clear y0 y1 y2 y3 y4 hD
          go_wp2_with fail
          refine (ccases_any A d cs w4 hC4 hcl).mono ?_
          rintro e w5 ⟨rfl, hb5⟩
          go_wp2
          go_ret
          exact ⟨rfl, bstep HD.out hb5⟩
        · rw [if_neg h21] at hz
          have t21 : ((k : Int) + 1 == 21) = false := by simp; omega
          obtain ⟨m, hm⟩ : ∃ m, cs.length = m := ⟨_, rfl⟩
          rw [hm] at y4 hz
          by_cases hm0 : m = 0
          · have hzz : Z = true := by rw [hz]; simp [hm0]
            subst hzz
            have t10 : ((m : Int) == 0) = true := by simp; omega
            clear hm h21 hm0 hz
            go_wp2_with fail
            go_quiet (first | (go_at_call 71; with_reducible exact Calls.quiet_of_same (HCA.out _)) | (go_at_call 71; with_reducible exact Calls.quiet_of_same (HCB.out _)) | (go_at_call 70; with_reducible exact Calls.quiet_of_same (G1.out _)) | (go_at_call 70; with_reducible exact Calls.quiet_of_same (G2.out _)) | (go_at_call 73; with_reducible exact Calls.quiet_of_same (G4.out _)) | (go_at_call 72; with_reducible exact Calls.quiet_of_same (G3.out _)))
            go_wp2
            go_ret
            exact ⟨rfl, hD _⟩
          · have hzz : Z = false := by rw [hz]; simp [hm0]
            subst hzz
            have t10 : ((m : Int) == 0) = false := by simp; omega
            clear hm h21 hm0 hz
            go_wp2_with fail
            go_quiet (first | (go_at_call 71; with_reducible exact Calls.quiet_of_same (HCA.out _)) | (go_at_call 71; with_reducible exact Calls.quiet_of_same (HCB.out _)) | (go_at_call 70; with_reducible exact Calls.quiet_of_same (G1.out _)) | (go_at_call 70; with_reducible exact Calls.quiet_of_same (G2.out _)) | (go_at_call 73; with_reducible exact Calls.quiet_of_same (G4.out _)) | (go_at_call 72; with_reducible exact Calls.quiet_of_same (G3.out _)))
            go_wp2
            go_ret
            exact ⟨rfl, hD _⟩
    · have t0 : (xn == 0) = false := by simp [hz0]
      have t0' : (xn != 0) = true := by simp [hz0]
      cases FN
      · have hz : Z = false := by rw [HU.out, t0]; simp
        subst hz
        clear hz0 HZW
        go_wp2_with fail
        go_quiet (first | (go_at_call 71; with_reducible exact Calls.quiet_of_same (HCA.out _)) | (go_at_call 71; with_reducible exact Calls.quiet_of_same (HCB.out _)) | (go_at_call 70; with_reducible exact Calls.quiet_of_same (G1.out _)) | (go_at_call 70; with_reducible exact Calls.quiet_of_same (G2.out _)) | (go_at_call 73; with_reducible exact Calls.quiet_of_same (G4.out _)) | (go_at_call 72; with_reducible exact Calls.quiet_of_same (G3.out _)))
        go_wp2
        go_ret
        exact ⟨rfl, hD _⟩
      ·
        cases W
        · have hz : Z = false := HZW rfl
          subst hz
          clear hz0 HZW
          go_wp2_with fail
          go_quiet (first | (go_at_call 71; with_reducible exact Calls.quiet_of_same (HCA.out _)) | (go_at_call 71; with_reducible exact Calls.quiet_of_same (HCB.out _)) | (go_at_call 70; with_reducible exact Calls.quiet_of_same (G1.out _)) | (go_at_call 70; with_reducible exact Calls.quiet_of_same (G2.out _)) | (go_at_call 73; with_reducible exact Calls.quiet_of_same (G4.out _)) | (go_at_call 72; with_reducible exact Calls.quiet_of_same (G3.out _)))
          go_wp2
          go_ret
          exact ⟨rfl, hD _⟩
        · have hz : Z = (if (k : Int) + 1 = 21 then casesOk cs else cs.length == 0) := by rw [HU.out, t0]; simp
          clear HZW hz0
          by_cases h21 : (k : Int) + 1 = 21
          · rw [if_pos h21] at hz
            have t21 : ((k : Int) + 1 == 21) = true := by simp; omega
            subst hz
            clear h21
            go_wp2_with fail
            go_quiet (first | (go_at_call 71; with_reducible exact Calls.quiet_of_same (HCA.out _)) | (go_at_call 71; with_reducible exact Calls.quiet_of_same (HCB.out _)) | (go_at_call 70; with_reducible exact Calls.quiet_of_same (G1.out _)) | (go_at_call 70; with_reducible exact Calls.quiet_of_same (G2.out _)) | (go_at_call 73; with_reducible exact Calls.quiet_of_same (G4.out _)) | (go_at_call 72; with_reducible exact Calls.quiet_of_same (G3.out _)))
            have hC4 : kC.C (w3.drewN nq) A cs.length cs := HC3.out
            have HD := hidP (hD nq)
            have z0 : (w3.drewN nq).cell? ⟨w.heap.size, 0, none⟩ = _ := y0
            have z4 : (w3.drewN nq).cell? ⟨w.heap.size, 4, none⟩ = _ := y4
            generalize w3.drewN nq = w4 at *
            clear y0 y1 y2 y3 y4 hD
            go_wp2_with fail
            refine (ccases_any A d cs w4 hC4 hcl).mono ?_
            rintro e w5 ⟨rfl, hb5⟩
            go_wp2
            go_ret
            exact ⟨rfl, bstep HD.out hb5⟩
          · rw [if_neg h21] at hz
            have t21 : ((k : Int) + 1 == 21) = false := by simp; omega
            obtain ⟨m, hm⟩ : ∃ m, cs.length = m := ⟨_, rfl⟩
            rw [hm] at y4 hz
            by_cases hm0 : m = 0
            · have hzz : Z = true := by rw [hz]; simp [hm0]
              subst hzz
              have t10 : ((m : Int) == 0) = true := by simp; omega
              clear hm h21 hm0 hz
              go_wp2_with fail
              go_quiet (first | (go_at_call 71; with_reducible exact Calls.quiet_of_same (HCA.out _)) | (go_at_call 71; with_reducible exact Calls.quiet_of_same (HCB.out _)) | (go_at_call 70; with_reducible exact Calls.quiet_of_same (G1.out _)) | (go_at_call 70; with_reducible exact Calls.quiet_of_same (G2.out _)) | (go_at_call 73; with_reducible exact Calls.quiet_of_same (G4.out _)) | (go_at_call 72; with_reducible exact Calls.quiet_of_same (G3.out _)))
              go_wp2
              go_ret
              exact ⟨rfl, hD _⟩
            · have hzz : Z = false := by rw [hz]; simp [hm0]
              subst hzz
              have t10 : ((m : Int) == 0) = false := by simp; omega
              clear hm h21 hm0 hz
              go_wp2_with fail
              go_quiet (first | (go_at_call 71; with_reducible exact Calls.quiet_of_same (HCA.out _)) | (go_at_call 71; with_reducible exact Calls.quiet_of_same (HCB.out _)) | (go_at_call 70; with_reducible exact Calls.quiet_of_same (G1.out _)) | (go_at_call 70; with_reducible exact Calls.quiet_of_same (G2.out _)) | (go_at_call 73; with_reducible exact Calls.quiet_of_same (G4.out _)) | (go_at_call 72; with_reducible exact Calls.quiet_of_same (G3.out _)))
              go_wp2
              go_ret
              exact ⟨rfl, hD _⟩
end Go.Proofs.YtoflhfiegfhkoaaDoor
