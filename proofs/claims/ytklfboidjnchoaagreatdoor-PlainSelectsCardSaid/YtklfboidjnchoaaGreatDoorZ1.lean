/-
  Parts of the proof: Lib, Own, KInstr, QSpec, Fits, Open.
-/
import Derived.WalkKit
import Derived.WalkSpells
import Derived.WalkLawsBesides
import Derived.StillTailTactics
import Derived.Deep.QuietTactic
import Derived.BigQuiet
import Derived.BigRegion
import Derived.Deep.RegionHeld3
import Derived.Deep.RegionWith
import Derived.Deep.RegionLaw
import Derived.Deep.RegionLawGrows
import Derived.Deep.AppendLies
import Derived.Deep.DeepFit
import Derived.Maps.AppendAt
import Derived.Deep.Upon
import Derived.Test.YtklfboidjnchoaaGreatDoorWWords
import Derived.Test.YtklfboidjnchoaaGreatDoorRows
import Derived.OwnWalk
import Derived.ProofKit
import Derived.OpenShut
namespace Go.Proofs.YtklfboidjnchoaaGreatDoor
open Go.RowKit
set_option linter.unusedVariables false
set_option linter.unusedSimpArgs false
theorem stA {α : Type} (l : List α) (i : Nat) (a : α) : l.toArray.setIfInBounds i a = (l.set i a).toArray := List.setIfInBounds_toArray l i a
theorem stS {α : Type} (x : α) (xs : List α) (n : Nat) (a : α) : (x :: xs).set (n + 1) a = x :: xs.set n a := List.set_cons_succ ..
theorem stZ {α : Type} (x : α) (xs : List α) (a : α) : (x :: xs).set 0 a = a :: xs := List.set_cons_zero ..
theorem bcell {W w1 : World} (hb : Below W.heap.size W w1) : (∀ b o, b < W.heap.size → w1.cell? ⟨b, o, none⟩ = W.cell? ⟨b, o, none⟩) ∧ (∀ b o, b < W.heap.size → w1.frozen? ⟨b, o, none⟩ = W.frozen? ⟨b, o, none⟩) :=
  ⟨fun b o h => hb.cell (p := ⟨b, o, none⟩) h, fun b o h => hb.frozen (p := ⟨b, o, none⟩) h⟩
theorem hidP {p : Prop} (h : p) : Hid p := h
def RowAt (w : World) (ao : Option Addr) (xs : List Value) : Prop :=
  xs = [] ∨ ∃ b o, ao = some ⟨b, o, none⟩ ∧ ∀ j u, xs[j]? = some u → w.cell? ⟨b, o + j, none⟩ = some u
theorem RowAt.nil (w : World) (ao : Option Addr) : RowAt w ao [] := .inl rfl
theorem RowAt.some {w : World} {b o : Nat} {xs : List Value} (h : RowAt w (some ⟨b, o, none⟩) xs) : ∀ j u, xs[j]? = some u → w.cell? ⟨b, o + j, none⟩ = some u := by
  rcases h with h | ⟨b', o', h, hc⟩
  · intro j u hj; simp [h] at hj
  · cases h; exact hc
theorem RowAt.addr {w : World} {ao : Option Addr} {xs : List Value} (h : RowAt w ao xs) (hl : 0 < xs.length) : ∃ b o, ao = Option.some ⟨b, o, none⟩ ∧ ∀ j u, xs[j]? = Option.some u → w.cell? ⟨b, o + j, none⟩ = Option.some u := by
  rcases h with h | h
  · simp [h] at hl
  · exact h
theorem RowAt.lt {w : World} {b o : Nat} {xs : List Value} (h : RowAt w (Option.some ⟨b, o, none⟩) xs) (hl : 0 < xs.length) : b < w.heap.size := by
  have := h.some 0 (xs[0]) (by simp [List.getElem?_eq_getElem hl])
  exact World.block_lt_of_cell? w ⟨b, o + 0, none⟩ this
theorem RowAt.below {w w' : World} {ao : Option Addr} {xs : List Value} (h : RowAt w ao xs) (hb : Below w.heap.size w w') : RowAt w' ao xs := by
  rcases h with h | ⟨b, o, h, hc⟩
  · exact .inl h
  · refine .inr ⟨b, o, h, fun j u hj => ?_⟩
    have := hc j u hj
    rw [hb.cell (p := ⟨b, o + j, none⟩) (World.block_lt_of_cell? w _ this)]
    exact this
theorem RowAt.alloc {w : World} {ao : Option Addr} {xs : List Value} (h : RowAt w ao xs) (o : Obj) : RowAt (w.alloc o) ao xs :=
  h.below ((Below.refl _ _).alloc (Nat.le_refl _) o)
theorem RowAt.drew {w : World} {ao : Option Addr} {xs : List Value} (h : RowAt w ao xs) : RowAt w.drew ao xs := h
theorem RowAt.keep {w w' : World} {ao : Option Addr} {xs : List Value} (h : RowAt w ao xs) (hb : ∀ b o, ao = Option.some ⟨b, o, none⟩ → w'.heap[b]? = w.heap[b]?) : RowAt w' ao xs := by
  rcases h with h | ⟨b, o, h, hc⟩
  · exact .inl h
  · exact .inr ⟨b, o, h, fun j u hj => by rw [World.cell?_of_block (w := w) (hb b o h)]; exact hc j u hj⟩
theorem RowAt.take {w : World} {ao : Option Addr} {xs : List Value} (h : RowAt w ao xs) (k : Nat) : RowAt w ao (xs.take k) := by
  rcases h with h | ⟨b, o, h, hc⟩
  · exact .inl (by simp [h])
  · refine .inr ⟨b, o, h, fun j u hj => ?_⟩
    rw [List.getElem?_take] at hj
    split at hj
    · exact hc j u hj
    · cases hj
theorem RowAt.new (w : World) (cs : List Value) (t : TypeId) : RowAt (w.alloc (.cells cs.toArray t)) (Option.some ⟨w.heap.size, 0, none⟩) cs := by
  refine .inr ⟨w.heap.size, 0, rfl, fun j u hj => ?_⟩
  rw [Nat.zero_add, cell_of_row _ _ j cs.toArray t (0, 0) (heap_alloc_new w _)]
  simpa using hj
theorem owns_open {w : World} {base : Nat} {e : TypeId} {size : Nat} {v : Value} {n : Nat} {xs : List Value} (h : w.ownsRow base e size v n xs) :
    ∃ ao cap, v = .slice ao n cap ∧ RowAt w ao xs ∧ n ≤ cap ∧ cap ≤ maxLen ∧ (ao = none → n = 0 ∧ cap = 0) ∧ xs.length = n * size := by
  rcases h with ⟨hl, ⟨hv, hn⟩ | ⟨g, cap, cur, hv, hb, hg, h1, h2, h3, h4⟩⟩
  · subst hn
    exact ⟨none, 0, hv, .inl (List.eq_nil_of_length_eq_zero (by simpa using hl)), Nat.le_refl _, Nat.zero_le _, fun _ => ⟨rfl, rfl⟩, hl⟩
  · refine ⟨Option.some ⟨g, 0, none⟩, cap, hv, .inr ⟨g, 0, rfl, fun j u hj => ?_⟩, h1, h2, (fun h => by cases h), hl⟩
    rw [Nat.zero_add, cell_of_row w g j cur e (0, 0) hg]
    rw [← h4, List.getElem?_take] at hj
    split at hj
    · simpa using hj
    · cases hj
theorem owns_row {w : World} {base : Nat} {e : TypeId} {size : Nat} {ao : Option Addr} {m cap : Nat} {n : Nat} {xs : List Value} (h : w.ownsRow base e size (.slice ao m cap) n xs) : RowAt w ao xs := by
  obtain ⟨ao', cap', hv, hr, _⟩ := owns_open h
  cases hv
  exact hr
theorem owns_below {w w' : World} {base : Nat} {e : TypeId} {size : Nat} {v : Value} {n : Nat} {xs : List Value} (h : w.ownsRow base e size v n xs) (hb : Below w.heap.size w w') : w'.ownsRow base e size v n xs :=
  h.kept (row := none) ⟨hb.os, hb.tape, hb.output, hb.size, fun k hk _ => hb.block k hk⟩ (by cases v.ownBlock <;> simp)
theorem owns_mono {w : World} {base base' : Nat} {e : TypeId} {size : Nat} {v : Value} {n : Nat} {xs : List Value} (h : w.ownsRow base e size v n xs) (hb : base' ≤ base) : w.ownsRow base' e size v n xs := by
  refine ⟨h.1, ?_⟩
  rcases h.2 with h | ⟨g, cap, cur, h1, h2, h3⟩
  · exact .inl h
  · exact .inr ⟨g, cap, cur, h1, Nat.le_trans hb h2, h3⟩
theorem bstep {w a b : World} (h : Below w.heap.size w a) (h2 : Below a.heap.size a b) : Below w.heap.size w b := h.trans (h2.mono h.size)
theorem bnew {w a : World} (h : Below w.heap.size w a) (o : Obj) : Below w.heap.size w (a.alloc o) := h.alloc h.size o
theorem brefl (w : World) : Below w.heap.size w w := Below.refl _ _
theorem below_iter (w : World) (s : ByteArray) (k : Nat) : Below w.heap.size w (w.iter s k) := (Below.refl _ _).alloc (Nat.le_refl _) _
def RetRow (w : World) (e : TypeId) (size : Nat) (n : Nat) (xs : List Value) (en : Ending) (w' : World) : Prop :=
  ∃ ao cap, en = .returned (.slice ao n cap) ∧ w'.ownsRow w.heap.size e size (.slice ao n cap) n xs ∧ Below w.heap.size w w'
theorem retRow_mk {w w' : World} {e : TypeId} {size : Nat} {v : Value} {n : Nat} {xs : List Value} (h : w'.ownsRow w.heap.size e size v n xs) (hb : Below w.heap.size w w') : RetRow w e size n xs (.returned v) w' := by
  obtain ⟨ao, cap, rfl, _⟩ := owns_open h
  exact ⟨ao, cap, rfl, h, hb⟩
structure SlT (P : Program) (t e : TypeId) (z : Value) (size bytes : Nat) : Prop where
  ht : P.underlying t = some (.slice e)
  hi : (P.info? e).map (fun i => (i.zero, i.size, i.bytes)) = some (some z, size, bytes)
  hzs : z.cells.size = size
  hsz : 0 < size
section
variable {P : Program} (w : World)
theorem run_app_nil (base : Nat) (t ty e : TypeId) (i : TypeInfo) (size : Nat) (ht : P.underlying t = some (.slice e)) (hi : P.info? e = some i)
    (v : Value) (n : Nat) (xs : List Value) (hown : w.ownsRow base e size v n xs) (c : Nat) : (Builtin.append_ #[t, t] ty #[v, .slice none 0 c]).run P w = .ok v w := by
  rcases hown.2 with ⟨rfl, rfl⟩ | ⟨g, cap, cur, rfl, _, _, hnc, _⟩
  · simp [Builtin.append_, run_underlying ht, sizeOf, typeInfo, hi, Builtin.lenOf, Builtin.firstCells]
  · simp [Builtin.append_, run_underlying ht, sizeOf, typeInfo, hi, Builtin.lenOf, Builtin.firstCells, hnc, storeCells]
theorem run_app {t e : TypeId} {z : Value} {size bytes : Nat} (hT : SlT P t e z size bytes) (base : Nat) (ty : TypeId)
    (v : Value) (n : Nat) (xs : List Value) (hown : w.ownsRow base e size v n xs)
    (A : Option Addr) (m c : Nat) (news : List Value) (hr : RowAt w A news) (hl : news.length = m * size) (h1 : ∀ u ∈ news, u.oneCell' = true)
    (h63 : n + m ≤ maxLen) (hbytes : (n + m) * bytes ≤ 140737488355328) (hbase : base ≤ w.heap.size) :
    ∃ v' w', (Builtin.append_ #[t, t] ty #[v, .slice A m c]).run P w = .ok v' w' ∧ w'.ownsRow base e size v' (n + m) (xs ++ news) ∧ w.grownBy w' v.ownBlock ∧
      (v'.ownBlock = v.ownBlock ∨ v'.ownBlock = some w.heap.size) := by
  obtain ⟨i, hi, hz0, hz1, hz2⟩ := info_parts hT.hi
  rcases A with _ | ad
  · have hn : news = [] := by
      rcases hr with h | ⟨b, o, h, _⟩
      · exact h
      · cases h
    subst hn
    have hm : m = 0 := by
      have := hT.hsz
      rcases Nat.eq_zero_or_pos m with h0 | h0
      · exact h0
      · have := Nat.mul_pos h0 this
        simp at hl
        omega
    subst hm
    exact ⟨v, w, run_app_nil w base t ty e i size hT.ht hi v n xs hown c, by simpa using hown, World.grownBy.refl w _, .inl rfl⟩
  · have hcells : ∀ j u, news[j]? = some u → w.cell? (ad.add j) = some u := by
      intro j u hu
      rcases hr with h | ⟨b, o, h, hc⟩
      · simp [h] at hu
      · cases h
        rw [Addr.add_lit]
        exact hc j u hu
    obtain ⟨v', w', hrun, h2, h3, _, h5⟩ := run_append_own_at (P := P) w base t ty e i z size bytes hT.ht hi hz0 hz1 hz2 hT.hzs hT.hsz v n xs hown ad m c news hl hcells h1 h63 hbytes hbase
    exact ⟨v', w', hrun, h2, h3, h5⟩
theorem wpList_app {ops : Array Oper} {rest : List Oper} {o : Oper} {a : Act} {Q : Exit → Act → World → Prop} (hgd : o.guard = none) (s x : Operand) {t e : TypeId} {z : Value} {size bytes : Nat}
    (ho : o.op = .call { callee := .builtin .append, args := #[s, x], argTypes := #[t, t] }) (hT : SlT P t e z size bytes)
    (base : Nat) (v : Value) (n : Nat) (xs : List Value) (hs : a.eval s = v) (hown : w.ownsRow base e size v n xs)
    (A : Option Addr) (m c : Nat) (news : List Value) (hx : a.eval x = .slice A m c) (N : Nat) (hN : N = n + m) (hr : RowAt w A news) (hl : news.length = m * size) (h1 : ∀ u ∈ news, u.oneCell' = true)
    (hbytes : N * bytes ≤ 140737488355328) (h63 : N ≤ maxLen) (hbase : base ≤ w.heap.size)
    (h : ∀ ao' cap' w', w'.ownsRow base e size (.slice ao' N cap') N (xs ++ news) → w.grownBy w' v.ownBlock → ((Value.slice ao' N cap').ownBlock = v.ownBlock ∨ (Value.slice ao' N cap').ownBlock = some w.heap.size) → wpList P ops Q rest (a.put o.dst (.slice ao' N cap')) w') : wpList P ops Q (o :: rest) a w := by
  refine wpList_plain hgd fun K hK => ?_
  subst hN
  obtain ⟨v', w', hrun, h2, h3, h4⟩ := run_app (P := P) w hT base o.type v n xs hown A m c news hr hl h1 h63 hbytes hbase
  obtain ⟨ao', cap', rfl, _⟩ := owns_open h2
  unfold Oper.wp execOp
  simp only [ho, resolve, invoke, builtin, Sem.run_bind, Sem.run_pure, Result.andThen_ok, List.map_toArray, List.map_cons, List.map_nil, hs, hx, hrun]
  exact hK _ _ (h ao' cap' w' h2 h3 h4)
end
def cutA (a : Option Addr) (l m s : Nat) : Option Addr := if m = l then a else a.map (·.add (l * s))
theorem sliced_cut (a : Option Addr) (l h m s : Nat) : sliced a l h m s = .slice (cutA a l m s) (h - l) (m - l) := rfl
theorem cutA_zero (a : Option Addr) (m s : Nat) : cutA a 0 m s = a := by
  unfold cutA
  cases a <;> simp [Addr.add]
attribute [go_sem] cutA_zero
attribute [go_sem ↓] sliced_cut
theorem RowAt.cut {w : World} {ao : Option Addr} {xs : List Value} (h : RowAt w ao xs) (l m s : Nat) (hl : m = l → xs.length ≤ l * s) : RowAt w (cutA ao l m s) (xs.drop (l * s)) := by
  unfold cutA
  split
  · rename_i e
    exact .inl (List.drop_eq_nil_of_le (hl e))
  · rcases h with h | ⟨b, o, rfl, hc⟩
    · exact .inl (by simp [h])
    · refine .inr ⟨b, o + l * s, ?_, fun j u hj => ?_⟩
      · simp [Addr.add_lit]
      · rw [List.getElem?_drop] at hj
        rw [Nat.add_assoc]
        exact hc _ u hj
structure Keep (S : Nat → Prop) (w w' : World) : Prop where
  os : w'.os = w.os
  tape : w'.tape = w.tape
  output : w'.output = w.output
  size : w.heap.size ≤ w'.heap.size
  block : ∀ k, k < w.heap.size → ¬ S k → w'.heap[k]? = w.heap[k]?
theorem Keep.refl (S : Nat → Prop) (w : World) : Keep S w w := ⟨rfl, rfl, rfl, Nat.le_refl _, fun _ _ _ => rfl⟩
theorem Keep.trans {S : Nat → Prop} {a b c : World} (h : Keep S a b) (k : Keep S b c) : Keep S a c :=
  ⟨k.os.trans h.os, k.tape.trans h.tape, k.output.trans h.output, Nat.le_trans h.size k.size, fun i hi hs => (k.block i (by have := h.size; omega) hs).trans (h.block i hi hs)⟩
theorem Keep.mono {S T : Nat → Prop} {a b : World} (h : Keep S a b) (hst : ∀ k, k < a.heap.size → S k → T k) : Keep T a b :=
  ⟨h.os, h.tape, h.output, h.size, fun i hi hs => h.block i hi (fun e => hs (hst i hi e))⟩
theorem Keep.of_below {S : Nat → Prop} {a b : World} (h : Below a.heap.size a b) : Keep S a b := ⟨h.os, h.tape, h.output, h.size, fun i hi _ => h.block i hi⟩
theorem Keep.of_grown {S : Nat → Prop} {a b : World} {row : Option Nat} (h : a.grownBy b row) (hr : ∀ k, row = some k → S k) : Keep S a b :=
  ⟨h.os, h.tape, h.output, h.size, fun i hi hs => h.block i hi (fun e => hs (hr i e.symm))⟩
theorem Keep.alloc {S : Nat → Prop} {a b : World} (h : Keep S a b) (o : Obj) : Keep S a (b.alloc o) := h.trans (.of_below ((Below.refl _ _).alloc (Nat.le_refl _) o))
theorem Keep.drew {S : Nat → Prop} {a b : World} (h : Keep S a b) : Keep S a b.drew := ⟨h.os, h.tape, h.output, h.size, h.block⟩
theorem Keep.setCell {S : Nat → Prop} {a b : World} (h : Keep S a b) {p : Addr} (hp : S p.block) (u : Value) : Keep S a (b.setCell p u) :=
  h.trans ⟨rfl, rfl, rfl, by simp [World.setCell], fun k hk hs => Below.heap_setCell _ _ _ _ (fun e => hs (e ▸ hp))⟩
theorem Keep.then {S T : Nat → Prop} {a b c : World} (h : Keep S a b) (k : Keep T b c) (hT : ∀ i, i < a.heap.size → T i → S i) : Keep S a c :=
  ⟨k.os.trans h.os, k.tape.trans h.tape, k.output.trans h.output, Nat.le_trans h.size k.size, fun i hi hs => (k.block i (by have := h.size; omega) (fun e => hs (hT i hi e))).trans (h.block i hi hs)⟩
theorem Keep.below {S : Nat → Prop} {a b : World} {B : Nat} (h : Keep S a b) (hB : B ≤ a.heap.size) (hs : ∀ k, S k → B ≤ k) : Below B a b :=
  ⟨h.os, h.tape, h.output, h.size, fun i hi => h.block i (by omega) (fun e => by have := hs i e; omega)⟩
theorem owns_keep {S : Nat → Prop} {w w' : World} {base : Nat} {e : TypeId} {size : Nat} {v : Value} {n : Nat} {xs : List Value} (h : w.ownsRow base e size v n xs) (hk : Keep S w w') (hs : ∀ k, v.ownBlock = some k → ¬ S k) : w'.ownsRow base e size v n xs := by
  refine ⟨h.1, ?_⟩
  rcases h.2 with hn | ⟨g, cap, cur, rfl, hb, hgg, rest⟩
  · exact .inl hn
  · refine .inr ⟨g, cap, cur, rfl, hb, ?_, rest⟩
    rw [hk.block g (Array.getElem?_eq_some_iff.1 hgg).1 (hs g rfl)]
    exact hgg
theorem row_keep {S : Nat → Prop} {w w' : World} {ao : Option Addr} {xs : List Value} (h : RowAt w ao xs) (hk : Keep S w w') (hs : ∀ b o, ao = some ⟨b, o, none⟩ → ¬ S b) : RowAt w' ao xs := by
  rcases h with h | ⟨b, o, rfl, hc⟩
  · exact .inl h
  · refine .inr ⟨b, o, rfl, fun j u hj => ?_⟩
    have hl := World.block_lt_of_cell? w _ (hc j u hj)
    rw [World.cell?_of_block (w := w) (hk.block b hl (hs b o rfl))]
    exact hc j u hj
theorem heap_setCells (b : Nat) (e : TypeId) : ∀ (vs : List Value) (o : Nat) (cur : Array Value) (w : World), w.heap[b]? = some (.cells cur e (0, 0)) → o + vs.length ≤ cur.size →
    (w.setCells b o vs).heap[b]? = some (.cells (cur.toList.take o ++ vs ++ cur.toList.drop (o + vs.length)).toArray e (0, 0))
  | [], o, cur, w, h, hl => by simpa [World.setCells] using h
  | v :: vs, o, cur, w, h, hl => by
    simp only [World.setCells]
    have h1 := heap_setCell_same w b o cur e v h
    have ih := heap_setCells b e vs (o + 1) (cur.setIfInBounds o v) (w.setCell ⟨b, o, none⟩ v) h1 (by simp at hl ⊢; omega)
    rw [ih]
    congr 3
    simp only [Array.toList_setIfInBounds, List.length_cons]
    have ho : o < cur.toList.length := by simp at hl ⊢; omega
    rw [List.take_set, List.drop_set_of_lt (by omega), List.take_add_one, List.set_append_right _ _ (by simp; omega)]
    have ho' : o < cur.size := by simpa using ho
    have hm : min o cur.size = o := by omega
    simp [hm, ho', Nat.add_assoc, Nat.add_comm 1]
section
variable {P : Program} (w : World)
theorem wp_app {o : Oper} {a : Act} {K : Act → World → Prop} {Q : Exit → Act → World → Prop} (s x : Operand) {t e : TypeId} {z : Value} {size bytes : Nat}
    (ho : o.op = .call { callee := .builtin .append, args := #[s, x], argTypes := #[t, t] }) (hT : SlT P t e z size bytes)
    (base : Nat) (v : Value) (n : Nat) (xs : List Value) (hs : a.eval s = v) (hown : w.ownsRow base e size v n xs)
    (A : Option Addr) (m c : Nat) (news : List Value) (hx : a.eval x = .slice A m c) (N : Nat) (hN : N = n + m) (hr : RowAt w A news) (hl : news.length = m * size) (h1 : ∀ u ∈ news, u.oneCell' = true)
    (hbytes : N * bytes ≤ 140737488355328) (h63 : N ≤ maxLen) (hbase : base ≤ w.heap.size)
    (h : ∀ ao' cap' w', w'.ownsRow base e size (.slice ao' N cap') N (xs ++ news) → w.grownBy w' v.ownBlock → ((Value.slice ao' N cap').ownBlock = v.ownBlock ∨ (Value.slice ao' N cap').ownBlock = some w.heap.size) → K (a.put o.dst (.slice ao' N cap')) w') : o.wp P a w K Q := by
  subst hN
  obtain ⟨v', w', hrun, h2, h3, h4⟩ := run_app (P := P) w hT base o.type v n xs hown A m c news hr hl h1 h63 hbytes hbase
  obtain ⟨ao', cap', rfl, _⟩ := owns_open h2
  unfold Oper.wp execOp
  simp only [ho, resolve, invoke, builtin, Sem.run_bind, Sem.run_pure, Result.andThen_ok, List.map_toArray, List.map_cons, List.map_nil, hs, hx, hrun]
  exact h ao' cap' w' h2 h3 h4
theorem step_app {ops : Array Oper} {o : Oper} {a : Act} {K : Act → World → Prop} {Q : Exit → Act → World → Prop} {E : Prop} (hgd : o.guard = none) (s x : Operand) {t e : TypeId} {z : Value} {size bytes : Nat}
    (ho : o.op = .call { callee := .builtin .append, args := #[s, x], argTypes := #[t, t] }) (hT : SlT P t e z size bytes)
    (base : Nat) (v : Value) (n : Nat) (xs : List Value) (hs : a.eval s = v) (hown : w.ownsRow base e size v n xs)
    (A : Option Addr) (m c : Nat) (news : List Value) (hx : a.eval x = .slice A m c) (N : Nat) (hN : N = n + m) (hr : RowAt w A news) (hl : news.length = m * size) (h1 : ∀ u ∈ news, u.oneCell' = true)
    (hbytes : N * bytes ≤ 140737488355328) (h63 : N ≤ maxLen) (hbase : base ≤ w.heap.size)
    (h : ∀ ao' cap' w', w'.ownsRow base e size (.slice ao' N cap') N (xs ++ news) → w.grownBy w' v.ownBlock → ((Value.slice ao' N cap').ownBlock = v.ownBlock ∨ (Value.slice ao' N cap').ownBlock = some w.heap.size) → K (a.put o.dst (.slice ao' N cap')) w') :
    if Region.wanted o (yielded ops a.tmps) = true then Oper.wp P o a w K Q else E := by
  have hw : Region.wanted o (yielded ops a.tmps) = true := by simp [Region.wanted, hgd]
  rw [if_pos hw]
  exact wp_app w s x ho hT base v n xs hs hown A m c news hx N hN hr hl h1 hbytes h63 hbase h
end
end Go.Proofs.YtklfboidjnchoaaGreatDoor
namespace Go.Proofs.YtklfboidjnchoaaGreatDoor
open Go.RowKit Go.Proofs.YtklfboidjnchoaaGreatDoorW.PrintWords
set_option linter.unusedVariables false
set_option linter.unusedSimpArgs false
structure CaseD where
  kind : Int
  ch : Int
  reg : Int
  dest : Int
  deriving DecidableEq
structure InstrD where
  op : Int
  a : Int
  b : Int
  n : Int
  cases : List CaseD
  deriving DecidableEq
def caseZ : CaseD := ⟨0, 0, 0, 0⟩
def instrZ : InstrD := ⟨0, 0, 0, 0, []⟩
def caseC (x : CaseD) : List Value := [.int .i64 x.kind, .int .i64 x.ch, .int .i64 x.reg, .int .i64 x.dest]
def caseV (x : CaseD) : Value := .agg #[.int .i64 x.kind, .int .i64 x.ch, .int .i64 x.reg, .int .i64 x.dest]
def instrV (x : InstrD) (v : Value) : Value := .agg #[.int .i64 x.op, .int .i64 x.a, .int .i64 x.b, .int .i64 x.n, v]
def instrC (x : InstrD) (v : Value) : List Value := [.int .i64 x.op, .int .i64 x.a, .int .i64 x.b, .int .i64 x.n, v]
def kC : Kd CaseD := Kd.iso (Kd.pair (Kd.int .i64) (Kd.pair (Kd.int .i64) (Kd.pair (Kd.int .i64) (Kd.int .i64)))) (fun x : CaseD => (x.kind, x.ch, x.reg, x.dest))
theorem kC_open {w : World} {x : CaseD} {cs : List Value} (h : kC.K w x cs) : cs = caseC x := by
  obtain ⟨_, _, rfl, rfl, ⟨_, _, rfl, rfl, ⟨_, _, rfl, rfl, rfl⟩⟩⟩ := h
  exact rfl
theorem kC_mkM (w : World) (base : Nat) (ok : Nat → Prop) (x : CaseD) : kC.M w base ok x (caseC x) := ⟨[.int .i64 x.kind], [.int .i64 x.ch, .int .i64 x.reg, .int .i64 x.dest], rfl, rfl, ⟨[.int .i64 x.ch], [.int .i64 x.reg, .int .i64 x.dest], rfl, rfl, ⟨[.int .i64 x.reg], [.int .i64 x.dest], rfl, rfl, rfl⟩⟩⟩
def kI : Kd InstrD := Kd.iso (Kd.pair (Kd.int .i64) (Kd.pair (Kd.int .i64) (Kd.pair (Kd.int .i64) (Kd.pair (Kd.int .i64) (Kd.slice 109 kC))))) (fun x : InstrD => (x.op, x.a, x.b, x.n, x.cases))
theorem kI_open {w : World} {x : InstrD} {cs : List Value} (h : kI.K w x cs) : ∃ A c, cs = instrC x (.slice A x.cases.length c) ∧ x.cases.length ≤ c ∧ kC.C w A x.cases.length x.cases := by
  obtain ⟨_, _, rfl, rfl, ⟨_, _, rfl, rfl, ⟨_, _, rfl, rfl, ⟨_, _, rfl, rfl, ⟨A, c, rfl, l4, g4⟩⟩⟩⟩⟩ := h
  exact ⟨A, c, rfl, l4, g4⟩
theorem kI_mk (w : World) (x : InstrD) {A : Option Addr} {c : Nat} (l4 : x.cases.length ≤ c) (g4 : kC.C w A x.cases.length x.cases) : kI.K w x (instrC x (.slice A x.cases.length c)) :=
  ⟨[.int .i64 x.op], [.int .i64 x.a, .int .i64 x.b, .int .i64 x.n, .slice A x.cases.length c], rfl, rfl, ⟨[.int .i64 x.a], [.int .i64 x.b, .int .i64 x.n, .slice A x.cases.length c], rfl, rfl, ⟨[.int .i64 x.b], [.int .i64 x.n, .slice A x.cases.length c], rfl, rfl, ⟨[.int .i64 x.n], [.slice A x.cases.length c], rfl, rfl, ⟨A, c, rfl, l4, g4⟩⟩⟩⟩⟩
theorem kI_mkM {w : World} {base : Nat} {ok : Nat → Prop} (x : InstrD) {v : Value} (h : kC.R 109 w base ok v x.cases) : kI.M w base ok x (instrC x v) :=
  ⟨[.int .i64 x.op], [.int .i64 x.a, .int .i64 x.b, .int .i64 x.n, v], rfl, rfl, ⟨[.int .i64 x.a], [.int .i64 x.b, .int .i64 x.n, v], rfl, rfl, ⟨[.int .i64 x.b], [.int .i64 x.n, v], rfl, rfl, ⟨[.int .i64 x.n], [v], rfl, rfl, ⟨v, rfl, h⟩⟩⟩⟩⟩
theorem Tryz.infoC : (Tryz.prog.info? 109).map (fun i => (i.zero, i.size, i.bytes)) = some (some (.agg #[(.int .i64 0), (.int .i64 0), (.int .i64 0), (.int .i64 0)]), kC.sz, 32) := by kernel_rfl
theorem Tryz.infoI : (Tryz.prog.info? 56).map (fun i => (i.zero, i.size, i.bytes)) = some (some (.agg #[(.int .i64 0), (.int .i64 0), (.int .i64 0), (.int .i64 0), (.slice none 0 0)]), kI.sz, 56) := by kernel_rfl
theorem sub_none {w : World} {b o : Nat} {sp : Option Nat} {v : Value} (h : w.cell? ⟨b, o, sp⟩ = some v) : sp = none := by
  unfold World.cell? at h
  cases sp with
  | none => rfl
  | some s => split at h <;> simp at h
theorem row_at {α : Type} {d : Kd α} {w : World} {A : Option Addr} {n : Nat} {xs : List α} (h : d.C w A n xs) (hs : 0 < d.sz) (i : Nat) (x : α) (hx : xs[i]? = some x) :
    ∃ b o c, A = some ⟨b, o, none⟩ ∧ d.K w x c ∧ ∀ j u, c[j]? = some u → w.cell? ⟨b, o + (i * d.sz + j), none⟩ = some u := by
  have hi : i < xs.length := (List.getElem?_eq_some_iff.1 hx).1
  have hn := h.1
  obtain ⟨ad, hA, hc⟩ := h.2.2 (by omega)
  obtain ⟨c, hl, hK, hcell⟩ := hc i x hx
  obtain ⟨b, o, sp⟩ := ad
  obtain ⟨c0, hl0, _, hcell0⟩ := hc 0 (xs[0]'(by omega)) (List.getElem?_eq_getElem (by omega))
  have h0 := hcell0 0 (c0[0]'(by omega)) (List.getElem?_eq_getElem (by omega))
  have hsp : sp = none := by
    have e : (⟨b, o, sp⟩ : Addr).add (0 * d.sz + 0) = ⟨b, o, sp⟩ := by simp [Addr.add]
    rw [e] at h0
    exact sub_none h0
  subst hsp
  refine ⟨b, o, c, hA, hK, fun j u hj => ?_⟩
  have := hcell j u hj
  rw [Addr.add_lit] at this
  exact this
theorem case_at {w : World} {A : Option Addr} {n : Nat} {xs : List CaseD} (h : kC.C w A n xs) (i : Nat) (x : CaseD) (hx : xs[i]? = some x) :
    ∃ b o, A = some ⟨b, o, none⟩ ∧ w.cell? ⟨b, o + i * 4, none⟩ = some (.int .i64 x.kind) ∧ w.cell? ⟨b, o + i * 4 + 1, none⟩ = some (.int .i64 x.ch) ∧ w.cell? ⟨b, o + i * 4 + 2, none⟩ = some (.int .i64 x.reg) ∧ w.cell? ⟨b, o + i * 4 + 3, none⟩ = some (.int .i64 x.dest) := by
  obtain ⟨b, o, c, hA, hK, hc⟩ := row_at h (by decide) i x hx
  obtain rfl := kC_open hK
  exact ⟨b, o, hA, hc 0 _ rfl, hc 1 _ rfl, hc 2 _ rfl, hc 3 _ rfl⟩
theorem instr_at {w : World} {A : Option Addr} {n : Nat} {xs : List InstrD} (h : kI.C w A n xs) (i : Nat) (x : InstrD) (hx : xs[i]? = some x) :
    ∃ b o A4 c4, A = some ⟨b, o, none⟩ ∧ w.cell? ⟨b, o + i * 5, none⟩ = some (.int .i64 x.op) ∧ w.cell? ⟨b, o + i * 5 + 1, none⟩ = some (.int .i64 x.a) ∧ w.cell? ⟨b, o + i * 5 + 2, none⟩ = some (.int .i64 x.b) ∧ w.cell? ⟨b, o + i * 5 + 3, none⟩ = some (.int .i64 x.n) ∧ w.cell? ⟨b, o + i * 5 + 4, none⟩ = some (.slice A4 x.cases.length c4) ∧ x.cases.length ≤ c4 ∧ kC.C w A4 x.cases.length x.cases := by
  obtain ⟨b, o, c, hA, hK, hc⟩ := row_at h (by decide) i x hx
  obtain ⟨A4, c4, rfl, h4, h5⟩ := kI_open hK
  exact ⟨b, o, A4, c4, hA, hc 0 _ rfl, hc 1 _ rfl, hc 2 _ rfl, hc 3 _ rfl, hc 4 _ rfl, h4, h5⟩
theorem Keep.drewN {S : Nat → Prop} {a b : World} (h : Keep S a b) (n : Nat) : Keep S a (b.drewN n) := ⟨h.os, h.tape, h.output, h.size, h.block⟩
theorem Keep.cell {S : Nat → Prop} {a b : World} (h : Keep S a b) {p : Addr} {v : Value} (hs : ¬ S p.block) (hv : a.cell? p = some v) : b.cell? p = some v := by
  rw [World.cell?_of_block (w := a) (h.block p.block (World.block_lt_of_cell? a p hv) hs)]
  exact hv
theorem C_keep {α : Type} {d : Kd α} {w w1 : World} {A : Option Addr} {n : Nat} {xs : List α} (h : d.C w A n xs) (hb : Below w.heap.size w w1) : d.C w1 A n xs := Kd.C_below h hb
end Go.Proofs.YtklfboidjnchoaaGreatDoor
namespace Go.Proofs.YtklfboidjnchoaaGreatDoor
set_option linter.unusedVariables false
set_option linter.unusedSimpArgs false
set_option linter.unusedVariables false
end Go.Proofs.YtklfboidjnchoaaGreatDoor
namespace Go.Proofs.YtklfboidjnchoaaGreatDoor
open Go.RowKit
set_option linter.unusedVariables false
set_option linter.unusedSimpArgs false
section
variable {P : Program} (w : World)
end
end Go.Proofs.YtklfboidjnchoaaGreatDoor
namespace Go.Proofs.YtklfboidjnchoaaGreatDoor
set_option linter.unusedVariables false
set_option linter.unusedSimpArgs false
open Go.ChangeShapes Go.WideShapes Go.ChangeAt Go.RowKit
end Go.Proofs.YtklfboidjnchoaaGreatDoor
