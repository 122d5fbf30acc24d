/-
  append in a region that draws its order: what stays readable, whatever was laid before.
-/
import Derived.Test.YtoflhfiegfhkoaaDoorOwn
namespace Go.Proofs.YtoflhfiegfhkoaaDoor
open Go.RowKit
set_option linter.unusedVariables false

section
variable {P : Program} (w : World)
/-- append onto a row of the call's own (all its blocks from w0's size on), the world of the call's begin kept. -/
theorem step_appB {ops : Array Oper} {o : Oper} {a : Act} {K : Act → World → Prop} {Q : Exit → Act → World → Prop} {E : Prop} (hgd : o.guard = none) (s x : Operand) {t e : TypeId} {z : Value} {size bytes : Nat}
    (ho : o.op = .call { callee := .builtin .append, args := #[s, x], argTypes := #[t, t] }) (hT : SlT P t e z size bytes) (w0 : World) (hb : Below w0.heap.size w0 w)
    (v : Value) (n : Nat) (xs : List Value) (hs : a.eval s = v) (hown : w.ownsRow w0.heap.size e size v n xs)
    (A : Option Addr) (m c : Nat) (news : List Value) (hx : a.eval x = .slice A m c) (N : Nat) (hN : N = n + m) (hr : RowAt w A news) (hl : news.length = m * size) (h1 : ∀ u ∈ news, u.oneCell' = true)
    (hbytes : N * bytes ≤ 140737488355328) (h63 : N ≤ maxLen)
    (h : ∀ ao' cap' w', w'.ownsRow w0.heap.size e size (.slice ao' N cap') N (xs ++ news) → Below w0.heap.size w0 w' → w.heap.size ≤ w'.heap.size → (∀ b, (Value.slice ao' N cap').ownBlock = some b → v.ownBlock = some b ∨ w.heap.size ≤ b) →
      (∀ b cs, b < w.heap.size → v.ownBlock ≠ some b → RowAt w (some ⟨b, 0, none⟩) cs → RowAt w' (some ⟨b, 0, none⟩) cs) → K (a.put o.dst (.slice ao' N cap')) w') :
    if Region.wanted o (yielded ops a.tmps) = true then Oper.wp P o a w K Q else E :=
  step_app w hgd s x ho hT w0.heap.size v n xs hs hown A m c news hx N hN hr hl h1 hbytes h63 hb.size fun ao' cap' w' h2 h3 h4 =>
    h ao' cap' w' h2 (hb.trans (below_grown h3 hb.size fun k hk => (hown.lt k hk).1)) h3.size
      (fun b hb' => by
        rcases h4 with h | h
        · exact .inl (h ▸ hb')
        · rw [h] at hb'; cases hb'; exact .inr (Nat.le_refl _))
      (fun b cs hlt hne hrow => by
        refine hrow.keep fun b' o' he => ?_
        cases he
        exact h3.block b hlt fun e => hne e.symm)
end
end Go.Proofs.YtoflhfiegfhkoaaDoor
