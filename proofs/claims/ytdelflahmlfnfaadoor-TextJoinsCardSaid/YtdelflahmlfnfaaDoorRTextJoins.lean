/-
  TextJoins: whatever the input, the law's Go function returns true, and each argument reads behind the call as it read before. No condition.
-/
import Derived.Test.YtdelflahmlfnfaaDoorRows
import Derived.Test.YtdelflahmlfnfaaDoorXJoins
import Derived.ProofKit
import Derived.OpenShut
import Derived.ShutString
import Derived.ChangeOld
import Derived.Below
import Derived.Test.YtdelflahmlfnfaaDoorTie
import Derived.Test.YtdelflahmlfnfaaDoorCards
import Derived.SevenTiedAt
import Derived.Test.YtdelflahmlfnfaaDoorXFrame
import Derived.LaidMore
import Derived.Stop.Joined
import Derived.Lay
namespace Go.Proofs.YtdelflahmlfnfaaDoor.textJoins
open Go.ChangeShapes Go.WideShapes Go.ChangeAt Go.RowKit
open Go.ChangeMaps (open_string shut_string)
set_option linter.unusedVariables false

theorem own : ownKnob Tryd.prog.godebug = none := by kernel_rfl
theorem laidOut : laidOutB Tryd.prog = true := by kernel_rfl

theorem door_met (os : Os) (args : Array Value) : laidMetH Tryd.prog Rows.textJoinsRow.laid ((World.laidAll Tryd.prog os Rows.textJoinsRow.laid).forCall (fun _ _ => 0) ⟨#[], args, []⟩).memory := by
  rw [MakeChecks.laidMetH_plain _ _ _ (by kernel_rfl)]
  exact laidMet_laidAll _ (by kernel_rfl) (by kernel_rfl)

set_option maxRecDepth 100000 in
theorem lifted (os : Os) (started : os.Started) (H : Type) (enc : TypeId × Value → H) :
    ReturnsInHanded {} Tryd.checked os 6 .any (fun w args => (Rows.textJoinsSpec.pre enc Tryd.prog Tryd.f6 Rows.textJoinsRow.domain false w args ∧ laidMetH Tryd.prog Rows.textJoinsRow.laid w) ∧ sizedMet enc Tryd.prog Tryd.f6 (OpenSpec.ofChange Rows.textJoinsSpec) false w args)
      (Rows.textJoinsSpec.post enc Tryd.prog Tryd.f6 false true false false) := by
  refine handed_shape (C := Tryd.checked) (X := fun w _ => laidMetH Tryd.prog Rows.textJoinsRow.laid w) (fun _ _ _ hh h => h.of_heap hh) own started (by kernel_rfl) Tryd.func6
    (ChangeSpec.witness_shaped (enc := enc) (C := Tryd.checked) (os := os) (X := fun w _ => laidMetH Tryd.prog Rows.textJoinsRow.laid w) false (World.laidAll Tryd.prog os Rows.textJoinsRow.laid) #[.slice none 0 0, .slice none 0 0] 8 (World.laidAll_os _ _ _) (World.shaped_of_ZipB (by kernel_rfl) (by kernel_rfl)) (by kernel_rfl) (by kernel_rfl) (by kernel_rfl) (door_met os _)) ?_
  intro W base args ds gs before hval0 hW hL hsh
  rw [MakeChecks.laidMetH_plain _ _ _ (by kernel_rfl)] at hL
  have hval : ∀ (j : Nat) t v, Tryd.f6.params[j]? = some t → args[j]? = some v → Value.okWide Tryd.prog W .any base t v := hval0
  have hW' := hW
  obtain ⟨p, q, hA0, hV, rfl, hfz, hnd⟩ := hW
  have hA : DataW.TrodAll enc Tryd.prog W 0 (fun _ => true) true Tryd.f6.params.toList args.toList ds p := hA0
  rw [Tryd.params6] at hA hval
  obtain ⟨v0, vs0, d0, ds0, p0, q0, hargs, rfl, rfl, h0, r0⟩ := trodAll_cons hA
  obtain ⟨v1, vs1, d1, ds1, p1, q1, rfl, rfl, rfl, h1, r1⟩ := trodAll_cons r0
  obtain ⟨rfl, rfl, rfl⟩ := trodAll_nil r1
  obtain rfl : args = #[v0, v1] := by cases args; simp_all
  obtain ⟨rfl, rfl⟩ := trodVars_none hV
  obtain ⟨a0, n0, c0, rfl⟩ := okWide_slice Tryd.underlying33 (hval 0 33 v0 rfl rfl)
  have k0 := h0
  have lt0 : ∀ x ∈ p0, x.block < W.heap.size := by obtain ⟨m, hm⟩ := k0; exact DataW.trod_lt m _ _ _ hm
  obtain ⟨z0, w0, l0, b0⟩ := opened_t9 h0
  obtain ⟨a1, n1, c1, rfl⟩ := okWide_slice Tryd.underlying29 (hval 1 29 v1 rfl rfl)
  have k1 := h1
  have lt1 : ∀ x ∈ p1, x.block < W.heap.size := by obtain ⟨m, hm⟩ := k1; exact DataW.trod_lt m _ _ _ hm
  obtain ⟨z1, w1, l1, b1⟩ := opened_ints Tryd.underlying29 Tryd.underlying3 (by kernel_rfl) h1
  clear hA0 hval0
  refine (textJoinsW W a0 n0 c0 z0 w0 l0 b0 a1 n1 c1 z1 w1 l1 b1 (maxLen_of hL hsh)).mono fun e W' ⟨he, bel⟩ => ?_
  subst he
  exact ⟨_, rfl, _, _, _, [], _, [], hW', trodAll_mk1 (shut_bool Tryd.underlying4 _), (trodAll_cons_mk (Below.trod laidOut (by kernel_rfl) (of_decide_eq_true (by kernel_rfl)) k0 bel lt0) (trodAll_cons_mk (Below.trod laidOut (by kernel_rfl) (of_decide_eq_true (by kernel_rfl)) k1 bel lt1) trodAll_mk0)), rfl, bel.frame _, fun h => by cases h⟩

theorem over : Rows.textJoinsRow.holds Tryd.pinned (OpenSpec.ofChange Rows.textJoinsSpec) :=
  OpenClaim.holds_of_wide 6 Tryd.f6 rfl rfl rfl rfl rfl rfl rfl ⟨rfl, rfl, rfl, rfl, rfl⟩ rfl rfl rfl rfl rfl (by kernel_rfl) Tryd.func6 (by kernel_rfl)
    (of_decide_eq_true (by kernel_rfl)) (by unfold Func.isWrapper; first | (rw [if_pos (by decide +kernel)]; kernel_rfl) | (rw [if_neg (by decide +kernel)]; exact ⟨rfl, rfl⟩))
    (fun os started H enc _ => lifted os started H enc)

theorem proved : Rows.TextJoinsCardSaid :=
  Claim7.holds_tied_plain_at .later [] [.data, .pinned] true (true, "bba7ee14c7b71367084670d553be5959f1c7e5292658cc950d182cfbad12019c") true
    over (fun _ h => by cases h) (by kernel_rfl) (fun _ h => by cases h) textJoins_row_tie rfl ⟨rfl, rfl⟩ (by kernel_rfl) rfl
    (fun f fn hf hfn => by
      obtain rfl : f = 6 := Option.some.inj ((show Tryd.prog.funcNamed "dormouse/dormouselaw01.TextJoins" = some 6 by kernel_rfl).symm.trans hf) |>.symm
      obtain rfl : fn = Tryd.f6 := (Option.some.inj (Tryd.func6.symm.trans hfn)).symm
      exact ⟨by kernel_rfl, fun j t ht => by
        rw [Tryd.params6] at ht
        match j with
        | 0 => (simp at ht; subst ht; exact (show Tryd.prog.wantsStandIn 33 = false by kernel_rfl))
        | 1 => (simp at ht; subst ht; exact (show Tryd.prog.wantsStandIn 29 = false by kernel_rfl))
        | j + 2 => simp at ht⟩)
    (by kernel_rfl)
#print axioms proved
end Go.Proofs.YtdelflahmlfnfaaDoor.textJoins
