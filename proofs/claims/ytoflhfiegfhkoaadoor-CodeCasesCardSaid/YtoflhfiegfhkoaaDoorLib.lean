/-
  Small facts on worlds, blocks and slices, used by all walks of this seat. No program is named here.
-/
import Derived.WalkKit
import Derived.WalkSpells
import Derived.WalkLawsBesides
import Derived.StillTailTactics
import Derived.Deep.QuietTactic
import Derived.BigQuiet
import Derived.BigRegion
import Derived.Deep.RegionHeld3
import Derived.Deep.RegionWith
import Derived.Deep.RegionLaw
import Derived.Deep.RegionLawGrows
import Derived.Deep.AppendLies
import Derived.Deep.DeepFit
import Derived.Maps.AppendAt
namespace Go.Proofs.YtoflhfiegfhkoaaDoor
open Go.RowKit
set_option linter.unusedVariables false

theorem bcell {W w1 : World} (hb : Below W.heap.size W w1) : (∀ b o, b < W.heap.size → w1.cell? ⟨b, o, none⟩ = W.cell? ⟨b, o, none⟩) ∧ (∀ b o, b < W.heap.size → w1.frozen? ⟨b, o, none⟩ = W.frozen? ⟨b, o, none⟩) :=
  ⟨fun b o h => hb.cell (p := ⟨b, o, none⟩) h, fun b o h => hb.frozen (p := ⟨b, o, none⟩) h⟩

theorem hidP {p : Prop} (h : p) : Hid p := h

/-- What lies at a slice's address, cell by cell. -/
def RowAt (w : World) (ao : Option Addr) (xs : List Value) : Prop :=
  xs = [] ∨ ∃ b o, ao = some ⟨b, o, none⟩ ∧ ∀ j u, xs[j]? = some u → w.cell? ⟨b, o + j, none⟩ = some u

theorem RowAt.nil (w : World) (ao : Option Addr) : RowAt w ao [] := .inl rfl

theorem RowAt.some {w : World} {b o : Nat} {xs : List Value} (h : RowAt w (some ⟨b, o, none⟩) xs) : ∀ j u, xs[j]? = some u → w.cell? ⟨b, o + j, none⟩ = some u := by
  rcases h with h | ⟨b', o', h, hc⟩
  · intro j u hj; simp [h] at hj
  · cases h; exact hc

/-- Where there is an element there is an address. -/
theorem RowAt.addr {w : World} {ao : Option Addr} {xs : List Value} (h : RowAt w ao xs) (hl : 0 < xs.length) : ∃ b o, ao = Option.some ⟨b, o, none⟩ ∧ ∀ j u, xs[j]? = Option.some u → w.cell? ⟨b, o + j, none⟩ = Option.some u := by
  rcases h with h | h
  · simp [h] at hl
  · exact h

theorem RowAt.lt {w : World} {b o : Nat} {xs : List Value} (h : RowAt w (Option.some ⟨b, o, none⟩) xs) (hl : 0 < xs.length) : b < w.heap.size := by
  have := h.some 0 (xs[0]) (by simp [List.getElem?_eq_getElem hl])
  exact World.block_lt_of_cell? w ⟨b, o + 0, none⟩ this

/-- What was readable below is readable in a later world. -/
theorem RowAt.below {w w' : World} {ao : Option Addr} {xs : List Value} (h : RowAt w ao xs) (hb : Below w.heap.size w w') : RowAt w' ao xs := by
  rcases h with h | ⟨b, o, h, hc⟩
  · exact .inl h
  · refine .inr ⟨b, o, h, fun j u hj => ?_⟩
    have := hc j u hj
    rw [hb.cell (p := ⟨b, o + j, none⟩) (World.block_lt_of_cell? w _ this)]
    exact this

theorem RowAt.belowB {w0 w w' : World} {ao : Option Addr} {xs : List Value} (h : RowAt w0 ao xs) (hb : Below w0.heap.size w0 w) (hb' : Below w.heap.size w w') : RowAt w' ao xs := (h.below hb).below hb'

theorem RowAt.alloc {w : World} {ao : Option Addr} {xs : List Value} (h : RowAt w ao xs) (o : Obj) : RowAt (w.alloc o) ao xs :=
  h.below ((Below.refl _ _).alloc (Nat.le_refl _) o)

theorem RowAt.drew {w : World} {ao : Option Addr} {xs : List Value} (h : RowAt w ao xs) : RowAt w.drew ao xs := h

/-- The same with whatever is kept but one block. -/
theorem RowAt.keep {w w' : World} {ao : Option Addr} {xs : List Value} (h : RowAt w ao xs) (hb : ∀ b o, ao = Option.some ⟨b, o, none⟩ → w'.heap[b]? = w.heap[b]?) : RowAt w' ao xs := by
  rcases h with h | ⟨b, o, h, hc⟩
  · exact .inl h
  · exact .inr ⟨b, o, h, fun j u hj => by rw [World.cell?_of_block (w := w) (hb b o h)]; exact hc j u hj⟩

/-- A prefix reads as a prefix. -/
theorem RowAt.take {w : World} {ao : Option Addr} {xs : List Value} (h : RowAt w ao xs) (k : Nat) : RowAt w ao (xs.take k) := by
  rcases h with h | ⟨b, o, h, hc⟩
  · exact .inl (by simp [h])
  · refine .inr ⟨b, o, h, fun j u hj => ?_⟩
    rw [List.getElem?_take] at hj
    split at hj
    · exact hc j u hj
    · cases hj

/-- A block that was just laid reads as its cells. -/
theorem RowAt.new (w : World) (cs : List Value) (t : TypeId) : RowAt (w.alloc (.cells cs.toArray t)) (Option.some ⟨w.heap.size, 0, none⟩) cs := by
  refine .inr ⟨w.heap.size, 0, rfl, fun j u hj => ?_⟩
  rw [Nat.zero_add, cell_of_row _ _ j cs.toArray t (0, 0) (heap_alloc_new w _)]
  simpa using hj

/-- What an owned slice is, and reads as. -/
theorem owns_open {w : World} {base : Nat} {e : TypeId} {size : Nat} {v : Value} {n : Nat} {xs : List Value} (h : w.ownsRow base e size v n xs) :
    ∃ ao cap, v = .slice ao n cap ∧ RowAt w ao xs ∧ n ≤ cap ∧ cap ≤ maxLen ∧ (ao = none → n = 0 ∧ cap = 0) ∧ xs.length = n * size := by
  rcases h with ⟨hl, ⟨hv, hn⟩ | ⟨g, cap, cur, hv, hb, hg, h1, h2, h3, h4⟩⟩
  · subst hn
    exact ⟨none, 0, hv, .inl (List.eq_nil_of_length_eq_zero (by simpa using hl)), Nat.le_refl _, Nat.zero_le _, fun _ => ⟨rfl, rfl⟩, hl⟩
  · refine ⟨Option.some ⟨g, 0, none⟩, cap, hv, .inr ⟨g, 0, rfl, fun j u hj => ?_⟩, h1, h2, (fun h => by cases h), hl⟩
    rw [Nat.zero_add, cell_of_row w g j cur e (0, 0) hg]
    rw [← h4, List.getElem?_take] at hj
    split at hj
    · simpa using hj
    · cases hj

theorem owns_row {w : World} {base : Nat} {e : TypeId} {size : Nat} {ao : Option Addr} {m cap : Nat} {n : Nat} {xs : List Value} (h : w.ownsRow base e size (.slice ao m cap) n xs) : RowAt w ao xs := by
  obtain ⟨ao', cap', hv, hr, _⟩ := owns_open h
  cases hv
  exact hr

theorem owns_below {w w' : World} {base : Nat} {e : TypeId} {size : Nat} {v : Value} {n : Nat} {xs : List Value} (h : w.ownsRow base e size v n xs) (hb : Below w.heap.size w w') : w'.ownsRow base e size v n xs :=
  h.kept (row := none) ⟨hb.os, hb.tape, hb.output, hb.size, fun k hk _ => hb.block k hk⟩ (by cases v.ownBlock <;> simp)

theorem owns_mono {w : World} {base base' : Nat} {e : TypeId} {size : Nat} {v : Value} {n : Nat} {xs : List Value} (h : w.ownsRow base e size v n xs) (hb : base' ≤ base) : w.ownsRow base' e size v n xs := by
  refine ⟨h.1, ?_⟩
  rcases h.2 with h | ⟨g, cap, cur, h1, h2, h3⟩
  · exact .inl h
  · exact .inr ⟨g, cap, cur, h1, Nat.le_trans hb h2, h3⟩

theorem below_grown {w w' : World} {B : Nat} {row : Option Nat} (hg : w.grownBy w' row) (hB : B ≤ w.heap.size) (hr : ∀ k, row = some k → B ≤ k) : Below B w w' := (Below.refl B w).grown hg hB hr

theorem bstep {w a b : World} (h : Below w.heap.size w a) (h2 : Below a.heap.size a b) : Below w.heap.size w b := h.trans (h2.mono h.size)
theorem bnew {w a : World} (h : Below w.heap.size w a) (o : Obj) : Below w.heap.size w (a.alloc o) := h.alloc h.size o
theorem brefl (w : World) : Below w.heap.size w w := Below.refl _ _

theorem below_iter (w : World) (s : ByteArray) (k : Nat) : Below w.heap.size w (w.iter s k) := (Below.refl _ _).alloc (Nat.le_refl _) _

/-- The cells of a block that was just laid. -/
theorem cells_new (w : World) (cs : List Value) (t : TypeId) : ∀ j u, cs[j]? = some u → (w.alloc (.cells cs.toArray t)).cell? ((⟨w.heap.size, 0, none⟩ : Addr).add j) = some u := by
  intro j u hj
  have hadd : (⟨w.heap.size, 0, none⟩ : Addr).add j = ⟨w.heap.size, j, none⟩ := by unfold Addr.add; split <;> simp_all
  rw [hadd, cell_of_row _ _ j cs.toArray t (0, 0) (heap_alloc_new w _)]
  simpa using hj

/-- What a call that hands back a new slice leaves. -/
def RetRow (w : World) (e : TypeId) (size : Nat) (n : Nat) (xs : List Value) (en : Ending) (w' : World) : Prop :=
  ∃ ao cap, en = .returned (.slice ao n cap) ∧ w'.ownsRow w.heap.size e size (.slice ao n cap) n xs ∧ Below w.heap.size w w'

theorem retRow_mk {w w' : World} {e : TypeId} {size : Nat} {v : Value} {n : Nat} {xs : List Value} (h : w'.ownsRow w.heap.size e size v n xs) (hb : Below w.heap.size w w') : RetRow w e size n xs (.returned v) w' := by
  obtain ⟨ao, cap, rfl, _⟩ := owns_open h
  exact ⟨ao, cap, rfl, h, hb⟩

/-! ### append onto an owned row, whatever the source -/

/-- A slice type's row of the program's table. -/
structure SlT (P : Program) (t e : TypeId) (z : Value) (size bytes : Nat) : Prop where
  ht : P.underlying t = some (.slice e)
  hi : (P.info? e).map (fun i => (i.zero, i.size, i.bytes)) = some (some z, size, bytes)
  hzs : z.cells.size = size
  hsz : 0 < size

section
variable {P : Program} (w : World)

theorem run_app_nil (base : Nat) (t ty e : TypeId) (i : TypeInfo) (size : Nat) (ht : P.underlying t = some (.slice e)) (hi : P.info? e = some i)
    (v : Value) (n : Nat) (xs : List Value) (hown : w.ownsRow base e size v n xs) (c : Nat) : (Builtin.append_ #[t, t] ty #[v, .slice none 0 c]).run P w = .ok v w := by
  rcases hown.2 with ⟨rfl, rfl⟩ | ⟨g, cap, cur, rfl, _, _, hnc, _⟩
  · simp [Builtin.append_, run_underlying ht, sizeOf, typeInfo, hi, Builtin.lenOf, Builtin.firstCells]
  · simp [Builtin.append_, run_underlying ht, sizeOf, typeInfo, hi, Builtin.lenOf, Builtin.firstCells, hnc, storeCells]

theorem run_app {t e : TypeId} {z : Value} {size bytes : Nat} (hT : SlT P t e z size bytes) (base : Nat) (ty : TypeId)
    (v : Value) (n : Nat) (xs : List Value) (hown : w.ownsRow base e size v n xs)
    (A : Option Addr) (m c : Nat) (news : List Value) (hr : RowAt w A news) (hl : news.length = m * size) (h1 : ∀ u ∈ news, u.oneCell' = true)
    (h63 : n + m ≤ maxLen) (hbytes : (n + m) * bytes ≤ 140737488355328) (hbase : base ≤ w.heap.size) :
    ∃ v' w', (Builtin.append_ #[t, t] ty #[v, .slice A m c]).run P w = .ok v' w' ∧ w'.ownsRow base e size v' (n + m) (xs ++ news) ∧ w.grownBy w' v.ownBlock ∧
      (v'.ownBlock = v.ownBlock ∨ v'.ownBlock = some w.heap.size) := by
  obtain ⟨i, hi, hz0, hz1, hz2⟩ := info_parts hT.hi
  rcases A with _ | ad
  · have hn : news = [] := by
      rcases hr with h | ⟨b, o, h, _⟩
      · exact h
      · cases h
    subst hn
    have hm : m = 0 := by
      have := hT.hsz
      rcases Nat.eq_zero_or_pos m with h0 | h0
      · exact h0
      · have := Nat.mul_pos h0 this
        simp at hl
        omega
    subst hm
    exact ⟨v, w, run_app_nil w base t ty e i size hT.ht hi v n xs hown c, by simpa using hown, World.grownBy.refl w _, .inl rfl⟩
  · have hcells : ∀ j u, news[j]? = some u → w.cell? (ad.add j) = some u := by
      intro j u hu
      rcases hr with h | ⟨b, o, h, hc⟩
      · simp [h] at hu
      · cases h
        rw [Addr.add_lit]
        exact hc j u hu
    obtain ⟨v', w', hrun, h2, h3, _, h5⟩ := run_append_own_at (P := P) w base t ty e i z size bytes hT.ht hi hz0 hz1 hz2 hT.hzs hT.hsz v n xs hown ad m c news hl hcells h1 h63 hbytes hbase
    exact ⟨v', w', hrun, h2, h3, h5⟩

/-- 'append(s, x...)', s the call's own, x whatever reads as 'news'. -/
theorem wpList_app {ops : Array Oper} {rest : List Oper} {o : Oper} {a : Act} {Q : Exit → Act → World → Prop} (hgd : o.guard = none) (s x : Operand) {t e : TypeId} {z : Value} {size bytes : Nat}
    (ho : o.op = .call { callee := .builtin .append, args := #[s, x], argTypes := #[t, t] }) (hT : SlT P t e z size bytes)
    (base : Nat) (v : Value) (n : Nat) (xs : List Value) (hs : a.eval s = v) (hown : w.ownsRow base e size v n xs)
    (A : Option Addr) (m c : Nat) (news : List Value) (hx : a.eval x = .slice A m c) (N : Nat) (hN : N = n + m) (hr : RowAt w A news) (hl : news.length = m * size) (h1 : ∀ u ∈ news, u.oneCell' = true)
    (hbytes : N * bytes ≤ 140737488355328) (h63 : N ≤ maxLen) (hbase : base ≤ w.heap.size)
    (h : ∀ ao' cap' w', w'.ownsRow base e size (.slice ao' N cap') N (xs ++ news) → w.grownBy w' v.ownBlock → ((Value.slice ao' N cap').ownBlock = v.ownBlock ∨ (Value.slice ao' N cap').ownBlock = some w.heap.size) → wpList P ops Q rest (a.put o.dst (.slice ao' N cap')) w') : wpList P ops Q (o :: rest) a w := by
  refine wpList_plain hgd fun K hK => ?_
  subst hN
  obtain ⟨v', w', hrun, h2, h3, h4⟩ := run_app (P := P) w hT base o.type v n xs hown A m c news hr hl h1 h63 hbytes hbase
  obtain ⟨ao', cap', rfl, _⟩ := owns_open h2
  unfold Oper.wp execOp
  simp only [ho, resolve, invoke, builtin, Sem.run_bind, Sem.run_pure, Result.andThen_ok, List.map_toArray, List.map_cons, List.map_nil, hs, hx, hrun]
  exact hK _ _ (h ao' cap' w' h2 h3 h4)
end

/-- A cut's address. -/
def cutA (a : Option Addr) (l m s : Nat) : Option Addr := if m = l then a else a.map (·.add (l * s))
theorem sliced_zero (a : Option Addr) (h m s : Nat) : sliced a 0 h m s = .slice a h m := by
  unfold sliced
  cases a <;> simp [Addr.add]
theorem sliced_cut (a : Option Addr) (l h m s : Nat) : sliced a l h m s = .slice (cutA a l m s) (h - l) (m - l) := rfl
theorem cutA_zero (a : Option Addr) (m s : Nat) : cutA a 0 m s = a := by
  unfold cutA
  cases a <;> simp [Addr.add]
attribute [go_sem] cutA_zero
attribute [go_sem ↓] sliced_cut
theorem RowAt.cut {w : World} {ao : Option Addr} {xs : List Value} (h : RowAt w ao xs) (l m s : Nat) (hl : m = l → xs.length ≤ l * s) : RowAt w (cutA ao l m s) (xs.drop (l * s)) := by
  unfold cutA
  split
  · rename_i e
    exact .inl (List.drop_eq_nil_of_le (hl e))
  · rcases h with h | ⟨b, o, rfl, hc⟩
    · exact .inl (by simp [h])
    · refine .inr ⟨b, o + l * s, ?_, fun j u hj => ?_⟩
      · simp [Addr.add_lit]
      · rw [List.getElem?_drop] at hj
        rw [Nat.add_assoc]
        exact hc _ u hj

theorem ints_one (k : IntKind) (zs : List Int) : ∀ u ∈ zs.map (Value.int k), u.oneCell' = true := ints_oneCell k zs

end Go.Proofs.YtoflhfiegfhkoaaDoor
