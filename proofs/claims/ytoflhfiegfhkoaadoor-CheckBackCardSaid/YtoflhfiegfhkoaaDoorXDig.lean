/-
  The walk over the helper package's Digits, at numbers that are not below 0.
-/
import Derived.Test.YtoflhfiegfhkoaaDoorLib
import Derived.Test.YtoflhfiegfhkoaaDoorRows
import Derived.Lib.ItoaNum
import Derived.Lib.ItoaLen
import Derived.IntWalk
import Derived.Laws.IdiomStrings
import Derived.Deep.DeepCutAuto
namespace Go.Proofs.YtoflhfiegfhkoaaDoor
open Go.RowKit
set_option linter.unusedVariables false

def digB (r : Nat) : ByteArray := ⟨#[UInt8.ofNat (48 + r)]⟩
theorem digB_size (r : Nat) : (digB r).size = 1 := rfl
def decB (n : Nat) : ByteArray := ⟨(Lib.decDigits n).toArray⟩

theorem conv_dig (r : Nat) (hr : r < 10) (b c : Nat) (w : World) (h : w.cell? ⟨b, 0, none⟩ = some (.int .u8 (48 + (r : Int)))) : (convert 47 9 (.slice (some ⟨b, 0, none⟩) 1 c)).run Tryd.prog w = .ok (.string (digB r)) w := by
  refine run_convert_bytes_back w _ _ 5 ⟨b, 0, none⟩ c [UInt8.ofNat (48 + r)] Tryd.underlying47 Tryd.underlying5 Tryd.underlying9 ?_
  intro j hj
  simp at hj
  subst hj
  have e : (⟨b, 0, none⟩ : Addr).add 0 = ⟨b, 0, none⟩ := by simp [Addr.add]
  have e2 : ((UInt8.ofNat (48 + r)).toNat : Int) = 48 + (r : Int) := by
    have : (UInt8.ofNat (48 + r)).toNat = 48 + r := by simp; omega
    rw [this]; omega
  rw [e, h]
  simp only [List.getElem_cons_zero]
  rw [e2]
theorem decB_le (n : Nat) (h : n < 1000000) : (decB n).size ≤ 21 := by
  have h1 := Lib.itoa_length_le (n : Int) (by omega) (by omega)
  have e : Lib.itoa (n : Int) = Lib.decDigits n := Lib.itoa_nonneg n
  rw [e] at h1
  simpa [decB, ByteArray.size] using h1
theorem decB_app (q r : Nat) : decB q ++ digB r = ⟨(Lib.decDigits q ++ [UInt8.ofNat (48 + r)]).toArray⟩ := by
  apply ByteArray.ext
  simp [decB, digB]

set_option maxRecDepth 100000 in
set_option maxHeartbeats 1600000 in
theorem digits_any : ∀ (n : Nat) (hn : n < 1000000) (w : World), Calls Tryd.prog 28 #[.int .i64 n] w fun e w' => e = .returned (.string (decB n)) ∧ Below w.heap.size w w' := by
  intro n
  induction n using Nat.strongRecOn with
  | _ n ih =>
    intro hn w
    have g0 : ¬ ((n : Int) < 0) := by omega
    by_cases h10 : n < 10
    · have g1 : (n : Int) < 10 := by omega
      have hu : IntKind.u8.wrap (48 + (n : Int)) = 48 + (n : Int) := by rw [IntKind.wrap_u8]; omega
      have hd : decB n = digB n := by unfold decB digB; rw [Lib.decDigits, dif_pos h10]
      have HD := hidP hd
      have hcv := conv_dig n h10 w.heap.size 1 (w.alloc (.cells #[.int .u8 (48 + (n : Int))] 5)) (by go_simp)
      clear ih hd
      go_enter Tryd.func28, Tryd.ntmps28
      go_wp2
      go_ret
      exact ⟨by rw [HD.out]; rfl, bnew (brefl w) _⟩
    · have g1 : ¬ ((n : Int) < 10) := by omega
      have ih' := fun w => ih (n / 10) (by omega) (by omega) w
      have hq : (n : Int).tdiv 10 = ((n / 10 : Nat) : Int) := by rw [Int.tdiv_eq_ediv_of_nonneg (by omega)]; omega
      have hr : (n : Int).tmod 10 = ((n % 10 : Nat) : Int) := by rw [Int.tmod_eq_emod_of_nonneg (by omega)]; omega
      have hd : decB n = ⟨(Lib.decDigits (n / 10) ++ [UInt8.ofNat (48 + n % 10)]).toArray⟩ := by unfold decB; conv => lhs; rw [Lib.decDigits]; rw [dif_neg h10]
      have hdn : decB (n / 10) = ⟨(Lib.decDigits (n / 10)).toArray⟩ := rfl
      have hq1 : n / 10 < 1000000 := by omega
      have hr1 : n % 10 < 10 := by omega
      have HD := hidP hd
      have HDN := hidP hdn
      generalize n / 10 = q at *
      generalize n % 10 = r at *
      have hu : IntKind.u8.wrap (48 + (r : Int)) = 48 + (r : Int) := by rw [IntKind.wrap_u8]; omega
      have hw1 : IntKind.i64.wrap (q : Int) = (q : Int) := IntWalk.i64_in _ (by omega)
      have hw2 : IntKind.i64.wrap (48 + (r : Int)) = 48 + (r : Int) := IntWalk.i64_in _ (by omega)
      have hw3 : IntKind.i64.wrap (r : Int) = (r : Int) := IntWalk.i64_in _ (by omega)
      have IH := hidP ih'
      clear ih ih' hd hdn
      go_enter Tryd.func28, Tryd.ntmps28
      go_upto_region 7 with fail
      have hcv := fun b c w => conv_dig r hr1 b c w
      have hsz := decB_le q hq1
      have hds := digB_size r
      have hcc : ¬ (9223372036854775807 < (decB q).size + 1) := by omega
      go_region_law (first | (go_simp; go_at_call 28; refine (IH.out _).mono ?_; rintro e w1 ⟨rfl, hb1⟩; obtain ⟨hcb, _⟩ := bcell hb1) | fail)
      all_goals
        go_wp2
        go_ret
        refine ⟨by rw [HD.out, ← decB_app]; rfl, ?_⟩
        first
          | exact bnew ((brefl w).drew.trans hb1) _
          | exact hb1.drew
          | exact (bnew (brefl w) _).trans (hb1.mono (by simp))
          | exact (bnew (brefl w) _).drew.trans (hb1.mono (by simp))
end Go.Proofs.YtoflhfiegfhkoaaDoor
