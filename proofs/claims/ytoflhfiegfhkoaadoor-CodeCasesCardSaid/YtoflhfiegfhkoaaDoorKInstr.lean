/-
  Instructions and cases as values, and how rows of them read.
-/
import Derived.Test.YtoflhfiegfhkoaaDoorOwn
import Derived.Test.YtoflhfiegfhkoaaDoorWWords
import Derived.Test.YtoflhfiegfhkoaaDoorRows
namespace Go.Proofs.YtoflhfiegfhkoaaDoor
open Go.RowKit Go.Proofs.YtoflhfiegfhkoaaDoorW.PrintWords
set_option linter.unusedVariables false

structure CaseD where
  kind : Int
  ch : Int
  reg : Int
  dest : Int
  deriving DecidableEq
structure InstrD where
  op : Int
  a : Int
  b : Int
  n : Int
  cases : List CaseD
  deriving DecidableEq
def caseZ : CaseD := ⟨0, 0, 0, 0⟩
def instrZ : InstrD := ⟨0, 0, 0, 0, []⟩
def caseC (x : CaseD) : List Value := [.int .i64 x.kind, .int .i64 x.ch, .int .i64 x.reg, .int .i64 x.dest]
def caseV (x : CaseD) : Value := .agg #[.int .i64 x.kind, .int .i64 x.ch, .int .i64 x.reg, .int .i64 x.dest]
def instrV (x : InstrD) (v : Value) : Value := .agg #[.int .i64 x.op, .int .i64 x.a, .int .i64 x.b, .int .i64 x.n, v]
def instrC (x : InstrD) (v : Value) : List Value := [.int .i64 x.op, .int .i64 x.a, .int .i64 x.b, .int .i64 x.n, v]

def kC : Kd CaseD := Kd.iso (Kd.pair (Kd.int .i64) (Kd.pair (Kd.int .i64) (Kd.pair (Kd.int .i64) (Kd.int .i64)))) (fun x : CaseD => (x.kind, x.ch, x.reg, x.dest))
theorem kC_open {w : World} {x : CaseD} {cs : List Value} (h : kC.K w x cs) : cs = caseC x := by
  obtain ⟨_, _, rfl, rfl, ⟨_, _, rfl, rfl, ⟨_, _, rfl, rfl, rfl⟩⟩⟩ := h
  exact rfl
theorem kC_mkM (w : World) (base : Nat) (ok : Nat → Prop) (x : CaseD) : kC.M w base ok x (caseC x) := ⟨[.int .i64 x.kind], [.int .i64 x.ch, .int .i64 x.reg, .int .i64 x.dest], rfl, rfl, ⟨[.int .i64 x.ch], [.int .i64 x.reg, .int .i64 x.dest], rfl, rfl, ⟨[.int .i64 x.reg], [.int .i64 x.dest], rfl, rfl, rfl⟩⟩⟩

def kI : Kd InstrD := Kd.iso (Kd.pair (Kd.int .i64) (Kd.pair (Kd.int .i64) (Kd.pair (Kd.int .i64) (Kd.pair (Kd.int .i64) (Kd.slice 39 kC))))) (fun x : InstrD => (x.op, x.a, x.b, x.n, x.cases))
theorem kI_open {w : World} {x : InstrD} {cs : List Value} (h : kI.K w x cs) : ∃ A c, cs = instrC x (.slice A x.cases.length c) ∧ x.cases.length ≤ c ∧ kC.C w A x.cases.length x.cases := by
  obtain ⟨_, _, rfl, rfl, ⟨_, _, rfl, rfl, ⟨_, _, rfl, rfl, ⟨_, _, rfl, rfl, ⟨A, c, rfl, l4, g4⟩⟩⟩⟩⟩ := h
  exact ⟨A, c, rfl, l4, g4⟩
theorem kI_mk (w : World) (x : InstrD) {A : Option Addr} {c : Nat} (l4 : x.cases.length ≤ c) (g4 : kC.C w A x.cases.length x.cases) : kI.K w x (instrC x (.slice A x.cases.length c)) :=
  ⟨[.int .i64 x.op], [.int .i64 x.a, .int .i64 x.b, .int .i64 x.n, .slice A x.cases.length c], rfl, rfl, ⟨[.int .i64 x.a], [.int .i64 x.b, .int .i64 x.n, .slice A x.cases.length c], rfl, rfl, ⟨[.int .i64 x.b], [.int .i64 x.n, .slice A x.cases.length c], rfl, rfl, ⟨[.int .i64 x.n], [.slice A x.cases.length c], rfl, rfl, ⟨A, c, rfl, l4, g4⟩⟩⟩⟩⟩
theorem kI_mkM {w : World} {base : Nat} {ok : Nat → Prop} (x : InstrD) {v : Value} (h : kC.R 39 w base ok v x.cases) : kI.M w base ok x (instrC x v) :=
  ⟨[.int .i64 x.op], [.int .i64 x.a, .int .i64 x.b, .int .i64 x.n, v], rfl, rfl, ⟨[.int .i64 x.a], [.int .i64 x.b, .int .i64 x.n, v], rfl, rfl, ⟨[.int .i64 x.b], [.int .i64 x.n, v], rfl, rfl, ⟨[.int .i64 x.n], [v], rfl, rfl, ⟨v, rfl, h⟩⟩⟩⟩⟩
theorem Tryd.infoC : (Tryd.prog.info? 39).map (fun i => (i.zero, i.size, i.bytes)) = some (some (.agg #[(.int .i64 0), (.int .i64 0), (.int .i64 0), (.int .i64 0)]), kC.sz, 32) := by kernel_rfl
theorem Tryd.infoI : (Tryd.prog.info? 37).map (fun i => (i.zero, i.size, i.bytes)) = some (some (.agg #[(.int .i64 0), (.int .i64 0), (.int .i64 0), (.int .i64 0), (.slice none 0 0)]), kI.sz, 56) := by kernel_rfl

theorem sub_none {w : World} {b o : Nat} {sp : Option Nat} {v : Value} (h : w.cell? ⟨b, o, sp⟩ = some v) : sp = none := by
  unfold World.cell? at h
  cases sp with
  | none => rfl
  | some s => split at h <;> simp at h

/-- Where a row of elements lies, and the cells of each. -/
theorem row_at {α : Type} {d : Kd α} {w : World} {A : Option Addr} {n : Nat} {xs : List α} (h : d.C w A n xs) (hs : 0 < d.sz) (i : Nat) (x : α) (hx : xs[i]? = some x) :
    ∃ b o c, A = some ⟨b, o, none⟩ ∧ d.K w x c ∧ ∀ j u, c[j]? = some u → w.cell? ⟨b, o + (i * d.sz + j), none⟩ = some u := by
  have hi : i < xs.length := (List.getElem?_eq_some_iff.1 hx).1
  have hn := h.1
  obtain ⟨ad, hA, hc⟩ := h.2.2 (by omega)
  obtain ⟨c, hl, hK, hcell⟩ := hc i x hx
  obtain ⟨b, o, sp⟩ := ad
  obtain ⟨c0, hl0, _, hcell0⟩ := hc 0 (xs[0]'(by omega)) (List.getElem?_eq_getElem (by omega))
  have h0 := hcell0 0 (c0[0]'(by omega)) (List.getElem?_eq_getElem (by omega))
  have hsp : sp = none := by
    have e : (⟨b, o, sp⟩ : Addr).add (0 * d.sz + 0) = ⟨b, o, sp⟩ := by simp [Addr.add]
    rw [e] at h0
    exact sub_none h0
  subst hsp
  refine ⟨b, o, c, hA, hK, fun j u hj => ?_⟩
  have := hcell j u hj
  rw [Addr.add_lit] at this
  exact this

theorem case_at {w : World} {A : Option Addr} {n : Nat} {xs : List CaseD} (h : kC.C w A n xs) (i : Nat) (x : CaseD) (hx : xs[i]? = some x) :
    ∃ b o, A = some ⟨b, o, none⟩ ∧ w.cell? ⟨b, o + i * 4, none⟩ = some (.int .i64 x.kind) ∧ w.cell? ⟨b, o + i * 4 + 1, none⟩ = some (.int .i64 x.ch) ∧ w.cell? ⟨b, o + i * 4 + 2, none⟩ = some (.int .i64 x.reg) ∧ w.cell? ⟨b, o + i * 4 + 3, none⟩ = some (.int .i64 x.dest) := by
  obtain ⟨b, o, c, hA, hK, hc⟩ := row_at h (by decide) i x hx
  obtain rfl := kC_open hK
  exact ⟨b, o, hA, hc 0 _ rfl, hc 1 _ rfl, hc 2 _ rfl, hc 3 _ rfl⟩
theorem instr_at {w : World} {A : Option Addr} {n : Nat} {xs : List InstrD} (h : kI.C w A n xs) (i : Nat) (x : InstrD) (hx : xs[i]? = some x) :
    ∃ b o A4 c4, A = some ⟨b, o, none⟩ ∧ w.cell? ⟨b, o + i * 5, none⟩ = some (.int .i64 x.op) ∧ w.cell? ⟨b, o + i * 5 + 1, none⟩ = some (.int .i64 x.a) ∧ w.cell? ⟨b, o + i * 5 + 2, none⟩ = some (.int .i64 x.b) ∧ w.cell? ⟨b, o + i * 5 + 3, none⟩ = some (.int .i64 x.n) ∧ w.cell? ⟨b, o + i * 5 + 4, none⟩ = some (.slice A4 x.cases.length c4) ∧ x.cases.length ≤ c4 ∧ kC.C w A4 x.cases.length x.cases := by
  obtain ⟨b, o, c, hA, hK, hc⟩ := row_at h (by decide) i x hx
  obtain ⟨A4, c4, rfl, h4, h5⟩ := kI_open hK
  exact ⟨b, o, A4, c4, hA, hc 0 _ rfl, hc 1 _ rfl, hc 2 _ rfl, hc 3 _ rfl, hc 4 _ rfl, h4, h5⟩

theorem Keep.drewN {S : Nat → Prop} {a b : World} (h : Keep S a b) (n : Nat) : Keep S a (b.drewN n) := ⟨h.os, h.tape, h.output, h.size, h.block⟩
theorem Keep.refl' (S : Nat → Prop) (w : World) (n : Nat) : Keep S w (w.drewN n) := (Keep.refl S w).drewN n
theorem Keep.cell {S : Nat → Prop} {a b : World} (h : Keep S a b) {p : Addr} {v : Value} (hs : ¬ S p.block) (hv : a.cell? p = some v) : b.cell? p = some v := by
  rw [World.cell?_of_block (w := a) (h.block p.block (World.block_lt_of_cell? a p hv) hs)]
  exact hv
theorem C_keep {α : Type} {d : Kd α} {w w1 : World} {A : Option Addr} {n : Nat} {xs : List α} (h : d.C w A n xs) (hb : Below w.heap.size w w1) : d.C w1 A n xs := Kd.C_below h hb
end Go.Proofs.YtoflhfiegfhkoaaDoor
