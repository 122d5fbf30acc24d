/-
  The walk over package code's find.
-/
import Derived.Test.YtoflhfiegfhkoaaDoorKFields
import Derived.Test.YtoflhfiegfhkoaaDoorShelf
namespace Go.Proofs.YtoflhfiegfhkoaaDoor
open Go.RowKit Go.Proofs.YtoflhfiegfhkoaaDoorW.PrintWords
set_option linter.unusedVariables false

/-- The first of some texts that begins with a sign, from 1 on. -/
def findF (c : Int) : Nat → List (List Nat) → Nat × List Nat × Bool
  | _, [] => (0, [], false)
  | i, P :: r => if (chr P 0 : Int) = c then (i + 1, P, true) else findF c (i + 1) r
theorem findF_yes {c : Int} {Ps : List (List Nat)} {k : Nat} {P : List Nat} (h : Ps[k]? = some P) (e : (chr P 0 : Int) = c) : findF c k (Ps.drop k) = (k + 1, P, true) := by
  obtain ⟨hk, hP⟩ := List.getElem?_eq_some_iff.1 h
  rw [List.drop_eq_getElem_cons hk, hP]
  simp only [findF]
  rw [if_pos e]
theorem findF_no {c : Int} {Ps : List (List Nat)} {k : Nat} {P : List Nat} (h : Ps[k]? = some P) (e : ¬ (chr P 0 : Int) = c) : findF c k (Ps.drop k) = findF c (k + 1) (Ps.drop (k + 1)) := by
  obtain ⟨hk, hP⟩ := List.getElem?_eq_some_iff.1 h
  rw [List.drop_eq_getElem_cons hk, hP]
  simp only [findF]
  rw [if_neg e]
/-- What a text's fields are. -/
structure FieldsOf (all : ByteArray) (Ps : List (List Nat)) : Prop where
  eq : (Lib.fields all.data.toList).map (fun l => Value.string ⟨l.toArray⟩) = Ps.map fun P => Value.string (strA P)
  len : (Lib.fields all.data.toList).length = Ps.length
  asc : ∀ (j : Nat) b, all.data.toList[j]? = some b → b.toNat < 128
  size : all.size < 1000
  few : Ps.length ≤ 100
  each : ∀ P ∈ Ps, 0 < P.length ∧ (∀ x ∈ P, x < 128) ∧ P.length ≤ 100
/-- The library's table of blanks stands where it stood. -/
def Blanks (w : World) : Prop := Lib.TabIs Tryd.prog w "strings.asciiSpace" .u8 Lib.asciiSpaceTab

set_option maxRecDepth 100000 in
set_option maxHeartbeats 1600000 in
theorem find_any {all : ByteArray} {Ps : List (List Nat)} (hf : FieldsOf all Ps) (c : Int) (w : World) (htab : Blanks w) :
    Calls Tryd.prog 57 #[.string all, .int .i32 c] w fun e w' => e = .returned (.tuple #[.int .i64 (findF c 0 Ps).1, .string (strA (findF c 0 Ps).2.1), .bool (findF c 0 Ps).2.2]) ∧ Below w.heap.size w w' := by
  have hfl := Tryd.strings_Fields_laid all w (by have := hf.size; omega) hf.asc htab
  rw [hf.eq, hf.len] at hfl
  have HF := hidP hf
  have hfew := hf.few
  obtain ⟨E, hE⟩ : ∃ E, findF c 0 Ps = E := ⟨_, rfl⟩
  rw [hE]
  have HE := hidP hE
  obtain ⟨N, hN⟩ : ∃ N, Ps.length = N := ⟨_, rfl⟩
  rw [hN] at hfl hfew
  have HN := hidP hN
  clear hf hE hN htab
  go_enter Tryd.func57, Tryd.ntmps57
  go_wp2_with fail
  refine hfl.mono ?_
  rintro e w1 ⟨rfl, rfl⟩
  have hrow := RowAt.new w (Ps.map fun P => Value.string (strA P)) 9
  have hb0 := bnew (brefl w) (.cells (Ps.map fun P => Value.string (strA P)).toArray 9)
  generalize w.alloc (.cells (Ps.map fun P => Value.string (strA P)).toArray 9) = w1 at *
  clear hfl
  go_wp2_with fail
  go_loopw [14] (fun v14 wr => ∃ k : Nat, v14 = .int .i64 k ∧ k ≤ N ∧ Hid (findF c k (Ps.drop k) = E) ∧ Below w1.heap.size w1 wr) (fun v14 _ => N - (intOf v14).toNat)
  case atStart => exact ⟨0, rfl, by omega, HE.out, brefl _⟩
  case round =>
    obtain ⟨k, rfl, hk, HK, hb⟩ := hrel
    obtain ⟨w2, e2⟩ : ∃ w2, w2 = wr := ⟨_, rfl⟩
    subst e2
    by_cases hlt : k < N
    · obtain ⟨P, hP⟩ : ∃ P, Ps[k]? = some P := ⟨_, List.getElem?_eq_getElem (by rw [HN.out]; exact hlt)⟩
      have cx : w2.cell? ⟨w.heap.size, 0 + k, none⟩ = some (.string (strA P)) := (hrow.below hb).some k _ (by rw [List.getElem?_map, hP]; rfl)
      rw [Nat.zero_add] at cx
      obtain ⟨hP0, hPa, hPl⟩ := HF.out.each P (List.mem_of_getElem? hP)
      have HP := hidP hP
      have HPA := hidP hPa
      have hit0 := World.iter_heap w2 (strA P) 0
      have hbi : Below w2.heap.size w2 (w2.iter (strA P) 0) := bnew (brefl w2) _
      clear hP hPa
      go_wp2_with fail
      go_loopw [] (fun wx => ∃ j : Nat, j ≤ P.length ∧ Hid (j = 0 ∨ ¬ (chr P 0 : Int) = c) ∧ wx.heap[w2.heap.size]? = some (.stringIter (strA P) j) ∧ Below w2.heap.size w2 wx) (fun wx => P.length - wx.iterPos w2.heap.size)
      case atStart => exact ⟨0, by omega, .inl rfl, hit0, hbi⟩
      case round =>
        clear hit0 hbi
        obtain ⟨j, hj, HJ, hit, hbx⟩ := hrel
        obtain ⟨w3, e3⟩ : ∃ w3, w3 = wr := ⟨_, rfl⟩
        subst e3
        by_cases hjl : j < P.length
        · obtain ⟨w4, hnx, hit4, hk4⟩ := Tryd.next_strA hit hjl HPA.out
          have hb4 : Below w2.heap.size w2 w4 := ⟨hk4.os.trans hbx.os, hk4.tape.trans hbx.tape, hk4.output.trans hbx.output, Nat.le_trans hbx.size hk4.size, fun i hi => (hk4.block i (by have := hbx.size; omega) (show ¬ i = w2.heap.size by omega)).trans (hbx.block i hi)⟩
          have mx : P.length - w4.iterPos w2.heap.size < P.length - w3.iterPos w2.heap.size := by
            have e1 : w4.iterPos w2.heap.size = j + 1 := by unfold World.iterPos; rw [hit4]
            have e2 : w3.iterPos w2.heap.size = j := by unfold World.iterPos; rw [hit]
            omega
          have HIT := hidP hit4
          have MX := hidP mx
          clear hit hit4 mx
          by_cases h0 : j = 0
          · subst h0
            by_cases hc : (chr P 0 : Int) = c
            · have hy := findF_yes HP.out hc
              have t1 : (((chr P 0 : Nat) : Int) == c) = true := by simp [hc]
              have he : E = (k + 1, P, true) := by rw [← HK.out]; exact hy
              have HEE := hidP he
              have hB := bstep hb0 (bstep hb hb4)
              clear hy hc he
              go_wp2
              go_ret3
              rw [HEE.out]
              exact ⟨rfl, hB⟩
            · have t1 : (((chr P 0 : Nat) : Int) == c) = false := by simp [hc]
              have HC := hidP hc
              clear hc
              go_wp2
              go_roundw
              case rel => exact ⟨1, by omega, .inr HC.out, HIT.out, hb4⟩
              case measure => exact MX.out
          · have t0 : ((j : Int) == 0) = false := by simp; omega
            have HC : Hid (¬ (chr P 0 : Int) = c) := by
              rcases HJ.out with h | h
              · exact absurd h h0
              · exact h
            clear h0
            go_wp2
            go_roundw
            case rel => exact ⟨j + 1, by omega, .inr HC.out, HIT.out, hb4⟩
            case measure => exact MX.out
        · have hnx := fun ty => Lib.run_next_end_at (P := Tryd.prog) w3 w2.heap.size (strA P) j ty hit (by rw [strA_size]; exact hjl)
          have hc : ¬ (chr P 0 : Int) = c := by
            rcases HJ.out with h | h
            · omega
            · exact h
          have hn := findF_no HP.out hc
          rw [HK.out] at hn
          have HK2 := hidP hn.symm
          have hB := bstep hb hbx
          clear hn hc hit
          go_wp2
          go_roundw
          case rel => exact ⟨k + 1, by go_num, by omega, HK2, hB⟩
          case measure => simp [intOf]; omega
    · have he : E = (0, [], false) := by
        have := HK.out
        rw [List.drop_eq_nil_of_le (by rw [HN.out]; omega)] at this
        exact this.symm
      have HEE := hidP he
      have hB := bstep hb0 hb
      clear he
      go_wp2
      go_ret3
      rw [HEE.out]
      exact ⟨rfl, hB⟩
end Go.Proofs.YtoflhfiegfhkoaaDoor
