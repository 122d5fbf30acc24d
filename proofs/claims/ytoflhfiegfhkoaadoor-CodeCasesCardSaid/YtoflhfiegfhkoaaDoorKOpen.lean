/-
  How a law's slice of instructions is opened.
-/
import Derived.Test.YtoflhfiegfhkoaaDoorKInstr
import Derived.Deep.Slices
import Derived.Deep.Fields
import Derived.ChangeSame
import Derived.ProofKit
import Derived.OpenShut
namespace Go.Proofs.YtoflhfiegfhkoaaDoor
open Go.ChangeShapes Go.WideShapes Go.ChangeAt Go.Deep Go.RowKit Go.Proofs.YtoflhfiegfhkoaaDoorW.PrintWords
set_option linter.unusedVariables false

theorem opened_row {α H : Type} (dk : Kd α) (φ : α → Prop) {enc : TypeId × Value → H} {w : World} {base : Nat} {spare : Nat → Bool} {held : Bool} {t e : TypeId} {fuel : Nat} {cs : List Value} {y : DataW H × List MemPlace} (z : α)
    (ht : Tryd.prog.underlying t = some (.slice e)) (hc : Tryd.prog.cellsOf e = dk.sz)
    (hel : ∀ n cs' y, cs'.length = dk.sz → DataW.trod enc Tryd.prog w base spare held n e cs' = some y → ∃ x : α, dk.K w x cs' ∧ φ x)
    (h : DataW.trod enc Tryd.prog w base spare held fuel t cs = some y) :
    ∃ a n cap l, cs = [.slice a n cap] ∧ dk.C w a n l ∧ (∀ x ∈ l, φ x) ∧ n ≤ cap ∧ cap ≤ maxLen := by
  rcases open_slice ht h with ⟨hcs, _⟩ | ⟨x, l, c, m, k, D, Pl, hcs, _, hl, hm, hmm, _, hi⟩
  · exact ⟨none, 0, 0, [], hcs, ⟨rfl, Nat.zero_le _, fun h => absurd h (by omega)⟩, by simp, Nat.le_refl _, Nat.zero_le _⟩
  · have hmn : l ≤ m := by rw [hmm]; split <;> omega
    have key : ∀ i, i < l → ∃ v : α, φ v ∧ ∃ c, c.length = dk.sz ∧ dk.K w v c ∧ ∀ t u, c[t]? = some u → w.cell? (x.add (i * dk.sz + t)) = some u := by
      intro i hin
      obtain ⟨cs', hc', ht'⟩ := hi i (by omega)
      rw [hc] at hc'
      obtain ⟨_, hcl, hat⟩ := World.cells?_some hc'
      obtain ⟨v, hK, hφ⟩ := hel _ _ _ hcl ht'
      refine ⟨v, hφ, cs', hcl, hK, fun t u hu => ?_⟩
      have hts := (List.getElem?_eq_some_iff.1 hu).1
      have hcell := hat t (by omega)
      rw [← Go.Deep.add_add, hcell, hu]
    obtain ⟨F, hF⟩ : ∃ F : Nat → α, ∀ i, i < l → φ (F i) ∧ ∃ c, c.length = dk.sz ∧ dk.K w (F i) c ∧ ∀ t u, c[t]? = some u → w.cell? (x.add (i * dk.sz + t)) = some u :=
      ⟨fun i => if h : i < l then Classical.choose (key i h) else z, fun i h => by dsimp only; rw [dif_pos h]; exact Classical.choose_spec (key i h)⟩
    have hgt : ∀ i v, ((List.range l).map F)[i]? = some v → i < l ∧ v = F i := by
      intro i v hv
      have hin : i < l := by have := (List.getElem?_eq_some_iff.1 hv).1; simpa using this
      rw [List.getElem?_map, List.getElem?_range hin] at hv
      simp at hv
      exact ⟨hin, hv.symm⟩
    refine ⟨some x, l, c, (List.range l).map F, hcs, ⟨by simp, by unfold maxLen at hm; omega, fun _ => ⟨x, rfl, fun j p hj => ?_⟩⟩, ?_, hl, hm⟩
    · obtain ⟨hin, rfl⟩ := hgt j p hj
      exact (hF j hin).2
    · intro v hv
      obtain ⟨i, hi2⟩ := List.getElem?_of_mem hv
      obtain ⟨hin, rfl⟩ := hgt i v hi2
      exact (hF i hin).1

def inI (n : Int) : Prop := -9223372036854775808 ≤ n ∧ n ≤ 9223372036854775807
def caseIn (c : CaseD) : Prop := inI c.kind ∧ inI c.ch ∧ inI c.reg ∧ inI c.dest
def instrIn (x : InstrD) : Prop := inI x.op ∧ inI x.a ∧ inI x.b ∧ inI x.n ∧ ∀ c ∈ x.cases, caseIn c
theorem list4 (l : List Value) (h : l.length = 4) : ∃ a b c d, l = [a, b, c, d] := by
  match l, h with
  | [a, b, c, d], _ => exact ⟨a, b, c, d, rfl⟩
theorem list5 (l : List Value) (h : l.length = 5) : ∃ a b c d e, l = [a, b, c, d, e] := by
  match l, h with
  | [a, b, c, d, e], _ => exact ⟨a, b, c, d, e, rfl⟩

set_option maxRecDepth 100000 in
theorem open_case {H : Type} {enc : TypeId × Value → H} {w : World} {base : Nat} {spare : Nat → Bool} {held : Bool} (n : Nat) (cs' : List Value) (y : DataW H × List MemPlace) (hl : cs'.length = kC.sz)
    (ht' : DataW.trod enc Tryd.prog w base spare held n 39 cs' = some y) : ∃ x : CaseD, kC.K w x cs' ∧ caseIn x := by
  obtain ⟨ys, n', hn', hy, hlen, hyl, hfld⟩ := DataW.trod_struct Tryd.underlying39 ht'
  have hi1 : Tryd.prog.cellsOf 3 = 1 := by kernel_rfl
  obtain ⟨v0, v1, v2, v3, rfl⟩ := list4 cs' hl
  obtain ⟨y0, hy0⟩ : ∃ y, ys[0]? = some y := ⟨_, List.getElem?_eq_getElem (by rw [hyl]; decide)⟩
  obtain ⟨y1, hy1⟩ : ∃ y, ys[1]? = some y := ⟨_, List.getElem?_eq_getElem (by rw [hyl]; decide)⟩
  obtain ⟨y2, hy2⟩ : ∃ y, ys[2]? = some y := ⟨_, List.getElem?_eq_getElem (by rw [hyl]; decide)⟩
  obtain ⟨y3, hy3⟩ : ∃ y, ys[3]? = some y := ⟨_, List.getElem?_eq_getElem (by rw [hyl]; decide)⟩
  have h0 := hfld 0 _ rfl
  have h1 := hfld 1 _ rfl
  have h2 := hfld 2 _ rfl
  have h3 := hfld 3 _ rfl
  rw [hy0] at h0
  rw [hy1] at h1
  rw [hy2] at h2
  rw [hy3] at h3
  simp [hi1] at h0 h1 h2 h3
  obtain ⟨z0, e0, _, f0⟩ := DataW.trod_int Tryd.underlying3 h0
  obtain ⟨z1, e1, _, f1⟩ := DataW.trod_int Tryd.underlying3 h1
  obtain ⟨z2, e2, _, f2⟩ := DataW.trod_int Tryd.underlying3 h2
  obtain ⟨z3, e3, _, f3⟩ := DataW.trod_int Tryd.underlying3 h3
  simp at e0 e1 e2 e3
  subst e0 e1 e2 e3
  exact ⟨⟨z0, z1, z2, z3⟩, kC.K_of_M (kC_mkM w 0 (fun _ => True) ⟨z0, z1, z2, z3⟩), bounds_i64 f0, bounds_i64 f1, bounds_i64 f2, bounds_i64 f3⟩

set_option maxRecDepth 100000 in
theorem open_instr {H : Type} {enc : TypeId × Value → H} {w : World} {base : Nat} {spare : Nat → Bool} {held : Bool} (n : Nat) (cs' : List Value) (y : DataW H × List MemPlace) (hl : cs'.length = kI.sz)
    (ht' : DataW.trod enc Tryd.prog w base spare held n 37 cs' = some y) : ∃ x : InstrD, kI.K w x cs' ∧ instrIn x := by
  obtain ⟨ys, n', hn', hy, hlen, hyl, hfld⟩ := DataW.trod_struct Tryd.underlying37 ht'
  have hi1 : Tryd.prog.cellsOf 3 = 1 := by kernel_rfl
  have hs1 : Tryd.prog.cellsOf 35 = 1 := by kernel_rfl
  obtain ⟨v0, v1, v2, v3, v4, rfl⟩ := list5 cs' hl
  obtain ⟨y0, hy0⟩ : ∃ y, ys[0]? = some y := ⟨_, List.getElem?_eq_getElem (by rw [hyl]; decide)⟩
  obtain ⟨y1, hy1⟩ : ∃ y, ys[1]? = some y := ⟨_, List.getElem?_eq_getElem (by rw [hyl]; decide)⟩
  obtain ⟨y2, hy2⟩ : ∃ y, ys[2]? = some y := ⟨_, List.getElem?_eq_getElem (by rw [hyl]; decide)⟩
  obtain ⟨y3, hy3⟩ : ∃ y, ys[3]? = some y := ⟨_, List.getElem?_eq_getElem (by rw [hyl]; decide)⟩
  obtain ⟨y4, hy4⟩ : ∃ y, ys[4]? = some y := ⟨_, List.getElem?_eq_getElem (by rw [hyl]; decide)⟩
  have h0 := hfld 0 _ rfl
  have h1 := hfld 1 _ rfl
  have h2 := hfld 2 _ rfl
  have h3 := hfld 3 _ rfl
  have h4 := hfld 4 _ rfl
  rw [hy0] at h0
  rw [hy1] at h1
  rw [hy2] at h2
  rw [hy3] at h3
  rw [hy4] at h4
  simp [hi1] at h0 h1 h2 h3
  simp [hs1] at h4
  obtain ⟨z0, e0, _, f0⟩ := DataW.trod_int Tryd.underlying3 h0
  obtain ⟨z1, e1, _, f1⟩ := DataW.trod_int Tryd.underlying3 h1
  obtain ⟨z2, e2, _, f2⟩ := DataW.trod_int Tryd.underlying3 h2
  obtain ⟨z3, e3, _, f3⟩ := DataW.trod_int Tryd.underlying3 h3
  obtain ⟨a4, n4, c4, l4, e4, hC, hφ, hle, _⟩ := opened_row kC caseIn caseZ Tryd.underlying35 (by kernel_rfl) (fun n cs' y hl h => open_case n cs' y hl h) h4
  simp at e0 e1 e2 e3 e4
  subst e0 e1 e2 e3 e4
  obtain rfl := hC.1
  exact ⟨⟨z0, z1, z2, z3, l4⟩, kI_mk w ⟨z0, z1, z2, z3, l4⟩ hle hC, bounds_i64 f0, bounds_i64 f1, bounds_i64 f2, bounds_i64 f3, hφ⟩

set_option maxRecDepth 100000 in
theorem opened_t37 {H : Type} {enc : TypeId × Value → H} {w : World} {base : Nat} {spare : Nat → Bool} {held : Bool} {a : Option Addr} {n cap : Nat} {d : DataW H} {p : List MemPlace}
    (h : DataW.Trod enc Tryd.prog w base spare held 22 (.slice a n cap) d p) :
    ∃ l : List InstrD, kI.C w a n l ∧ l.length = n ∧ (∀ x ∈ l, instrIn x) ∧ n ≤ cap ∧ cap ≤ maxLen := by
  obtain ⟨fuel, hf⟩ := h
  obtain ⟨a', n', c', l, e, hC, hφ, hle, hm⟩ := opened_row kI instrIn instrZ Tryd.underlying22 (by kernel_rfl) (fun n cs' y hl h => open_instr n cs' y hl h) hf
  simp [Value.cells] at e
  obtain ⟨rfl, rfl, rfl⟩ := e
  exact ⟨l, hC, hC.1, hφ, hle, hm⟩
end Go.Proofs.YtoflhfiegfhkoaaDoor
