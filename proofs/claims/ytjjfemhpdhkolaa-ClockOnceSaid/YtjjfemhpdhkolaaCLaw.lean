/-
  Clocks to which numbers were added one by one: in which order they stand. And a row that lives beside a clock.
-/
import Derived.Test.YtjjfemhpdhkolaaCAwake
namespace Go.Proofs.Ytjjfemhpdhkolaa
open Go.RowKit
set_option linter.unusedVariables false

def Lexw (l : List CE) : Prop := l.Pairwise fun x y => x.1 < y.1 ∨ x.1 = y.1 ∧ x.2 < y.2
/-- What stands there when 0, 1, .. were added, each for its own time. -/
def Told (v : Nat → Int) (n : Nat) (l : List CE) : Prop := Lexw l ∧ l.length = n ∧ ∀ x ∈ l, ∃ i : Nat, i < n ∧ x = (v i, (i : Int))

theorem lexw_byw {l : List CE} (h : Lexw l) : Byw l := List.Pairwise.imp (fun h => by omega) h
theorem told_nil (v : Nat → Int) : Told v 0 [] := ⟨List.Pairwise.nil, rfl, by simp⟩
theorem told_add {v : Nat → Int} {n : Nat} {l : List CE} (h : Told v n l) : Told v (n + 1) (cAdd l (v n) n) := by
  obtain ⟨h1, h2, h3⟩ := h
  refine ⟨?_, by rw [length_cAdd, h2], ?_⟩
  · unfold cAdd Lexw
    rw [List.append_assoc, List.pairwise_append]
    refine ⟨h1.sublist (List.take_sublist _ _), ?_, ?_⟩
    · rw [List.singleton_append, List.pairwise_cons]
      exact ⟨fun x hx => .inl (byw_behind (lexw_byw h1) x hx), h1.sublist (List.drop_sublist _ _)⟩
    · intro x hx y hy
      have hle := cutN_before x hx
      obtain ⟨i, hi, rfl⟩ := h3 x (List.mem_of_mem_take hx)
      rcases List.mem_append.1 hy with hy | hy
      · simp at hy
        subst hy
        simp at hle ⊢
        omega
      · have := byw_behind (lexw_byw h1) y hy
        simp at hle ⊢
        omega
  · intro x hx
    unfold cAdd at hx
    simp only [List.mem_append, List.mem_singleton] at hx
    rcases hx with (hx | hx) | hx
    · obtain ⟨i, hi, e⟩ := h3 x (List.mem_of_mem_take hx)
      exact ⟨i, by omega, e⟩
    · exact ⟨n, by omega, hx⟩
    · obtain ⟨i, hi, e⟩ := h3 x (List.mem_of_mem_drop hx)
      exact ⟨i, by omega, e⟩

theorem cutN_zero {l : List CE} {t : Int} (h : ∀ x ∈ l, t < x.1) : cutN l t = 0 := cutN_eq (Nat.zero_le _) (by simp) (fun x hx => h x (List.mem_of_getElem? hx))
theorem cutN_all {l : List CE} {t : Int} (h : ∀ x ∈ l, x.1 ≤ t) : cutN l t = l.length := cutN_eq (Nat.le_refl _) (by simpa using h) (fun x hx => by simp at hx)

/-- A clock of the call's own, and a row beside it. -/
def CR (B : Nat) (w : World) (q : Nat) (l : List CE) (ao : Option Addr) (xs : List Value) : Prop :=
  ∃ P, CIn w q P l ∧ (∀ k, P k → B ≤ k) ∧ B ≤ w.heap.size ∧ RowAt w ao xs ∧ ∀ b o, ao = some ⟨b, o, none⟩ → ¬ P b ∧ b < w.heap.size

theorem CR.cb {B : Nat} {w : World} {q : Nat} {l : List CE} {ao : Option Addr} {xs : List Value} (h : CR B w q l ao xs) : CB B w q l := by
  obtain ⟨P, h1, h2, h3, _⟩ := h
  exact ⟨P, h1, h2, h3⟩
theorem CR.row {B : Nat} {w : World} {q : Nat} {l : List CE} {ao : Option Addr} {xs : List Value} (h : CR B w q l ao xs) : RowAt w ao xs := by
  obtain ⟨P, h1, h2, h3, h4, _⟩ := h
  exact h4
theorem CR.below {B : Nat} {w w' : World} {q : Nat} {l : List CE} {ao : Option Addr} {xs : List Value} (h : CR B w q l ao xs) (hb : Below w.heap.size w w') : CR B w' q l ao xs := by
  obtain ⟨P, h1, h2, h3, h4, h5⟩ := h
  exact ⟨P, h1.below hb, h2, Nat.le_trans h3 hb.size, h4.below hb, fun b o e => ⟨(h5 b o e).1, Nat.lt_of_lt_of_le (h5 b o e).2 hb.size⟩⟩
theorem cr_of {B : Nat} {w w' : World} {q : Nat} {l : List CE} {ao : Option Addr} {xs : List Value} {n c : Nat} {e : TypeId} (h : CB B w q l) (ho : w'.ownsRow w.heap.size e 1 (.slice ao n c) n xs) (hb : Below w.heap.size w w') : CR B w' q l ao xs := by
  obtain ⟨P, h1, h2, h3⟩ := h
  refine ⟨P, h1.below hb, h2, Nat.le_trans h3 hb.size, owns_row ho, ?_⟩
  rintro b o rfl
  have := ho.lt b rfl
  refine ⟨fun hp => ?_, this.2⟩
  obtain ⟨_, _, _, h4⟩ := h1
  have := h4 b hp
  omega
theorem crDue {B : Nat} (w : World) (q : Nat) (l : List CE) (ao : Option Addr) (xs : List Value) (t : Int) (ds : List Int) (l' : List CE) (h : CR B w q l ao xs) (hl : l.length ≤ 900000) (hd : cDue l t = ds) (he : l.drop (cutN l t) = l') :
    Calls Try.prog 38 #[.pointer (some ⟨q, 0, none⟩), .int .i64 t] w fun e w' => ∃ a2 c2, e = .returned (.slice a2 ds.length c2) ∧ RowAt w' a2 (ds.map (Value.int .i64)) ∧ CR B w' q l' ao xs ∧ Below B w w' := by
  subst hd he
  obtain ⟨P, h1, h2, h3, h4, h5⟩ := h
  refine (cdue_any q P l t w h1 hl).mono fun e w' h => ?_
  obtain ⟨v, rfl, ⟨a2, c2, rfl, ha⟩, P', h6, hk, hn⟩ := h
  refine ⟨a2, c2, rfl, owns_row ha, ⟨P', h6, fun k hp => ?_, Nat.le_trans h3 hk.size, row_keep h4 hk (fun b o e => (h5 b o e).1), fun b o e => ⟨fun hp => ?_, Nat.lt_of_lt_of_le (h5 b o e).2 hk.size⟩⟩, hk.below h3 h2⟩
  · rcases hn k hp with h | h
    · exact h2 k h
    · omega
  · rcases hn b hp with h | h
    · exact (h5 b o e).1 h
    · have := (h5 b o e).2
      omega
end Go.Proofs.Ytjjfemhpdhkolaa
