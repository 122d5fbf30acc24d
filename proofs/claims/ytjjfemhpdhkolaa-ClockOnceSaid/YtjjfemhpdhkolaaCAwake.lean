/-
  The test that the program with the clock is awake.
-/
import Derived.Test.YtjjfemhpdhkolaaCDue
import Derived.Test.YtjjfemhpdhkolaaCNil
import Derived.Test.YtjjfemhpdhkolaaPlays
namespace Go.Proofs.Ytjjfemhpdhkolaa
open Go.RowKit
set_option linter.unusedVariables false

/-- A clock whose blocks are all new since B. -/
def CB (B : Nat) (w : World) (q : Nat) (l : List CE) : Prop := ∃ P, CIn w q P l ∧ (∀ k, P k → B ≤ k) ∧ B ≤ w.heap.size

theorem CB.below {B : Nat} {w w' : World} {q : Nat} {l : List CE} (h : CB B w q l) (hb : Below w.heap.size w w') : CB B w' q l := by
  obtain ⟨P, h1, h2, h3⟩ := h
  exact ⟨P, h1.below hb, h2, Nat.le_trans h3 hb.size⟩
theorem cb_post {B : Nat} {w w' : World} {q : Nat} {P : Nat → Prop} {l' : List CE} {A : World → Value → Prop} {e : Ending} (hP : ∀ k, P k → B ≤ k) (hB : B ≤ w.heap.size) (h : OPost (fun w P => CIn w q P l') w P A e w') :
    ∃ v, e = .returned v ∧ A w' v ∧ CB B w' q l' ∧ Below B w w' := by
  obtain ⟨v, he, ha, P', h1, hk, hn⟩ := h
  refine ⟨v, he, ha, ⟨P', h1, fun k hk => ?_, Nat.le_trans hB hk.size⟩, hk.below hB hP⟩
  rcases hn k hk with h | h
  · exact hP k h
  · omega
theorem cb_new {B : Nat} (w : World) (hB : B ≤ w.heap.size) : CB B (w.alloc (.cells #[.slice none 0 0] 85)) w.heap.size [] :=
  ⟨fun k => k = w.heap.size, ⟨none, cnew_at w, by rintro k (h | h) <;> simp_all, by rintro k rfl; simp⟩, by rintro k rfl; exact hB, by simp; omega⟩

theorem cbAdd {B : Nat} (w : World) (q : Nat) (l : List CE) (t a : Int) (l' : List CE) (h : CB B w q l) (hl : l.length ≤ 900000) (he : cAdd l t a = l') :
    Calls Try.prog 40 #[.pointer (some ⟨q, 0, none⟩), .int .i64 t, .int .i64 a] w fun e w' => e = .returned (.tuple #[]) ∧ CB B w' q l' ∧ Below B w w' := by
  subst he
  obtain ⟨P, h1, h2, h3⟩ := h
  refine (cadd_any q P l t a w h1 hl).mono fun e w' h => ?_
  obtain ⟨v, he, rfl, h4, h5⟩ := cb_post h2 h3 h
  exact ⟨he, h4, h5⟩
theorem cbDue {B : Nat} (w : World) (q : Nat) (l : List CE) (t : Int) (ds : List Int) (l' : List CE) (h : CB B w q l) (hl : l.length ≤ 900000) (hd : cDue l t = ds) (he : l.drop (cutN l t) = l') :
    Calls Try.prog 38 #[.pointer (some ⟨q, 0, none⟩), .int .i64 t] w fun e w' => ∃ ao c, e = .returned (.slice ao ds.length c) ∧ w'.ownsRow w.heap.size 3 1 (.slice ao ds.length c) ds.length (ds.map (Value.int .i64)) ∧ CB B w' q l' ∧ Below B w w' := by
  subst hd he
  obtain ⟨P, h1, h2, h3⟩ := h
  refine (cdue_any q P l t w h1 hl).mono fun e w' h => ?_
  obtain ⟨v, rfl, ⟨ao, c, rfl, ha⟩, h4, h5⟩ := cb_post h2 h3 h
  exact ⟨ao, c, rfl, ha, h4, h5⟩
theorem cbAll {B : Nat} (w : World) (q : Nat) (l : List CE) (h : CB B w q l) (hl : l.length ≤ 900000) :
    Calls Try.prog 42 #[.pointer (some ⟨q, 0, none⟩)] w (RetRow w 3 1 l.length ((l.map (·.2)).map (Value.int .i64))) := by
  obtain ⟨P, ⟨g, h1, _⟩, _⟩ := h
  exact call_any q g l w h1 (by omega)
theorem cbLen {B : Nat} (w : World) (q : Nat) (l : List CE) (h : CB B w q l) (hl : l.length ≤ 900000) :
    Calls Try.prog 43 #[.pointer (some ⟨q, 0, none⟩)] w fun e w' => e = .returned (.int .i64 l.length) ∧ Below w.heap.size w w' := by
  obtain ⟨P, ⟨g, h1, _⟩, _⟩ := h
  exact clen_any q g l w h1 (by omega)

set_option maxRecDepth 100000 in
set_option maxHeartbeats 1000000 in
theorem awake19_any (w : World) : Calls Try.prog 37 #[] w fun e w' => e = .returned (.bool true) ∧ Below w.heap.size w w' := by
  go_enter Try.func37, Try.ntmps37
  go_wp2_with fail
  refine (cnew_any _).mono ?_
  rintro e w1 ⟨rfl, rfl⟩
  have h1 := cb_new w (Nat.le_refl _)
  have hb1 := bnew (brefl w) (.cells #[.slice none 0 0] 85)
  go_wp2_with fail
  refine (cbAdd _ _ [] 5 7 [(5, 7)] h1 (by simp) (by decide)).mono ?_
  rintro e w2 ⟨rfl, h2, hb2⟩
  have hB2 := hb1.trans hb2
  clear h1 hb1 hb2
  go_wp2_with fail
  refine (cbAdd _ _ [(5, 7)] 3 8 [(3, 8), (5, 7)] h2 (by simp) (by decide)).mono ?_
  rintro e w3 ⟨rfl, h3, hb3⟩
  have hB3 := hB2.trans hb3
  go_wp2_with fail
  refine (cbAll _ _ [(3, 8), (5, 7)] h3 (by simp)).mono ?_
  rintro e w4 ⟨a4, c4, rfl, ho4, hb4⟩
  have h4 := h3.below hb4
  have hB4 := bstep hB3 hb4
  have r4 := owns_row ho4
  go_wp2_with fail
  refine (plainInt_yes a4 (some ⟨w4.heap.size, 0, none⟩) 2 2 c4 2 [8, 7] [8, 7] _ (r4.alloc _) (RowAt.new w4 [.int .i64 8, .int .i64 7] _) rfl rfl (by omega) rfl).mono ?_
  rintro e w5 ⟨rfl, hb5⟩
  have hB5 := bstep (bnew hB4 (.cells #[.int .i64 8, .int .i64 7] 3)) hb5
  have h5 := (h4.below (bnew (brefl _) _)).below hb5
  go_wp2_with fail
  refine (cbDue _ _ [(3, 8), (5, 7)] 3 [8] [(5, 7)] h5 (by simp) (by decide) (by decide)).mono ?_
  rintro e w6 ⟨a6, c6, rfl, ho6, h6, hb6⟩
  have hB6 := hB5.trans hb6
  have r6 := owns_row ho6
  go_wp2_with fail
  refine (plainInt_yes a6 (some ⟨w6.heap.size, 0, none⟩) 1 1 c6 1 [8] [8] _ (r6.alloc _) (RowAt.new w6 [.int .i64 8] _) rfl rfl (by omega) rfl).mono ?_
  rintro e w7 ⟨rfl, hb7⟩
  have hB7 := bstep (bnew hB6 (.cells #[.int .i64 8] 3)) hb7
  have h7 := (h6.below (bnew (brefl _) _)).below hb7
  go_wp2_with fail
  refine (cbLen _ _ [(5, 7)] h7 (by simp)).mono ?_
  rintro e w8 ⟨rfl, hb8⟩
  go_wp2
  go_ret
  exact ⟨rfl, bstep hB7 hb8⟩
end Go.Proofs.Ytjjfemhpdhkolaa
