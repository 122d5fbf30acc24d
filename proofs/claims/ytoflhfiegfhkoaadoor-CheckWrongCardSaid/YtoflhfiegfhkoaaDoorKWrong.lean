/-
  The walk of the law CheckWrong.
-/
import Derived.Test.YtoflhfiegfhkoaaDoorKRegs
import Derived.Test.YtoflhfiegfhkoaaDoorKPlayP
import Derived.Test.YtoflhfiegfhkoaaDoorStepB
namespace Go.Proofs.YtoflhfiegfhkoaaDoor
open Go.RowKit Go.Proofs.YtoflhfiegfhkoaaDoorW.PrintWords
set_option linter.unusedVariables false

/-! ### several boxes, one behind the other -/
def allocs (w : World) : List Obj → World
  | [] => w
  | o :: r => allocs (w.alloc o) r
theorem allocs_below : ∀ (os : List Obj) (w : World), Below w.heap.size w (allocs w os)
  | [], w => brefl w
  | o :: r, w => bstep (bnew (brefl w) o) (allocs_below r _)
theorem allocs_size : ∀ (os : List Obj) (w : World), (allocs w os).heap.size = w.heap.size + os.length
  | [], w => rfl
  | o :: r, w => by
    show (allocs (w.alloc o) r).heap.size = _
    rw [allocs_size r, World.size_alloc, List.length_cons]
    omega
theorem allocs_at : ∀ (os : List Obj) (w : World) (i : Nat) (o : Obj), os[i]? = some o → (allocs w os).heap[w.heap.size + i]? = some o
  | [], w, i, o, h => by simp at h
  | a :: r, w, 0, o, h => by
    simp at h
    subst h
    exact blk_below (blk_new w a) (allocs_below r _)
  | a :: r, w, i + 1, o, h => by
    have := allocs_at r (w.alloc a) i o (by simpa using h)
    rw [World.size_alloc] at this
    rw [show w.heap.size + (i + 1) = w.heap.size + 1 + i by omega]
    exact this
/-- A row of cases that is laid as a literal. -/
theorem lit_cases {w : World} {g : Nat} (cs : List CaseD) (h : w.heap[g]? = some (.cells (cs.flatMap caseC).toArray 39 (0, 0))) (hl : cs.length ≤ 9223372036854775807) : kC.C w (some ⟨g, 0, none⟩) cs.length cs := by
  refine ⟨rfl, hl, fun _ => ⟨_, rfl, fun j p hj => ⟨caseC p, rfl, kC.K_of_M (kC_mkM w 0 (fun _ => True) p), fun i u hi => ?_⟩⟩⟩
  have e : (⟨g, 0, none⟩ : Addr).add (j * kC.sz + i) = ⟨g, 0 + (j * 4 + i), none⟩ := Addr.add_lit _ _ _
  rw [e, Nat.zero_add, cell_of_row _ _ _ _ 39 (0, 0) h, List.getElem?_toArray]
  have hg : ∀ (l : List CaseD) (j : Nat) (p : CaseD), l[j]? = some p → (caseC p)[i]? = some u → (l.flatMap caseC)[j * 4 + i]? = some u := by
    intro l
    induction l with
    | nil => intro j p h; simp at h
    | cons a l ih =>
      intro j p hp hi
      cases j with
      | zero =>
        obtain rfl : a = p := by simpa using hp
        have hi4 : i < (caseC a).length := (List.getElem?_eq_some_iff.1 hi).1
        rw [List.flatMap_cons, Nat.zero_mul, Nat.zero_add, List.getElem?_append_left hi4]
        exact hi
      | succ j =>
        simp at hp
        have hc4 : (caseC a).length = 4 := rfl
        rw [List.flatMap_cons, List.getElem?_append_right (by omega), hc4, show (j + 1) * 4 + i - 4 = j * 4 + i by omega]
        exact ih j p hp hi
  exact hg cs j p hj hi
/-- A row of instructions that is laid as a literal, each with what it has of cases. -/
theorem reps_pairs (w : World) : ∀ (l : List (InstrD × Value)), (∀ p ∈ l, kI.K w p.1 (instrC p.1 p.2)) → ∀ (done : List InstrD) (cs : List Value), Reps (kI.K w) 5 done cs → Reps (kI.K w) 5 (done ++ l.map (·.1)) (cs ++ l.flatMap fun p => instrC p.1 p.2)
  | [], _, done, cs, h => by simpa using h
  | p :: r, hx, done, cs, h => by
    have := reps_pairs w r (fun y hy => hx y (by simp [hy])) _ _ (h.snoc (hx p (by simp)) rfl)
    rw [List.append_assoc, List.append_assoc] at this
    exact this
theorem reps_reads {w : World} {g : Nat} {l : List InstrD} {cs : List Value} (hr : Reps (kI.K w) 5 l cs) (hl : l.length ≤ 9223372036854775807) (hc : ∀ j u, cs[j]? = some u → w.cell? ⟨g, j, none⟩ = some u) : kI.C w (some ⟨g, 0, none⟩) l.length l := by
  refine ⟨rfl, hl, fun _ => ⟨_, rfl, fun j p hj => ?_⟩⟩
  have hlen : j < l.length := (List.getElem?_eq_some_iff.1 hj).1
  refine ⟨_, ?_, hr.2 j p hj, fun i u hi => ?_⟩
  · rw [List.length_take, List.length_drop, hr.1]
    show min 5 (l.length * 5 - j * 5) = 5
    omega
  · have e : (⟨g, 0, none⟩ : Addr).add (j * kI.sz + i) = ⟨g, 0 + (j * 5 + i), none⟩ := Addr.add_lit _ _ _
    rw [e, Nat.zero_add]
    rw [List.getElem?_take] at hi
    split at hi
    · rw [List.getElem?_drop] at hi
      exact hc _ u hi
    · cases hi

/-! ### what may not be -/
def badP (n g : Nat) : List (InstrD × Value) :=
  [(⟨0, 0, 0, 0, []⟩, .slice none 0 0), (⟨23, 0, 0, 0, []⟩, .slice none 0 0), (⟨1, 6, 0, 0, []⟩, .slice none 0 0), (⟨1, -1, 0, 0, []⟩, .slice none 0 0), (⟨1, 0, 0, 10000, []⟩, .slice none 0 0), (⟨1, 0, 1, 0, []⟩, .slice none 0 0),
   (⟨4, 0, 0, 4, []⟩, .slice none 0 0), (⟨14, 0, 0, 1001, []⟩, .slice none 0 0), (⟨18, 0, 0, 4, []⟩, .slice none 0 0), (⟨20, 0, 0, 10, []⟩, .slice none 0 0), (⟨22, 1, 0, 0, []⟩, .slice none 0 0), (⟨11, 0, 0, (n : Int) + 1, []⟩, .slice none 0 0), (⟨10, 0, 0, 9999, []⟩, .slice none 0 0), (⟨21, 0, 0, 0, []⟩, .slice none 0 0),
   (⟨21, 0, 0, 0, [⟨4, 0, 0, 0⟩]⟩, .slice (some ⟨g, 0, none⟩) 1 1), (⟨21, 0, 0, 0, [⟨3, 1, 0, 0⟩]⟩, .slice (some ⟨g + 1, 0, none⟩) 1 1), (⟨21, 0, 0, 0, [⟨3, 0, 0, 0⟩, ⟨1, 0, 0, 0⟩]⟩, .slice (some ⟨g + 2, 0, none⟩) 2 2), (⟨21, 0, 0, 0, [⟨1, 0, 0, 0⟩, ⟨1, 0, 0, 0⟩, ⟨1, 0, 0, 0⟩, ⟨3, 0, 0, 0⟩]⟩, .slice (some ⟨g + 3, 0, none⟩) 4 4),
   (⟨21, 0, 0, 0, [⟨2, 0, 0, (n : Int) + 1⟩]⟩, .slice (some ⟨g + 4, 0, none⟩) 1 1), (⟨2, 0, 0, 0, [⟨1, 0, 0, 0⟩]⟩, .slice (some ⟨g + 5, 0, none⟩) 1 1), (⟨11, 0, 0, -1, []⟩, .slice none 0 0)]
def badL (n : Nat) : List InstrD := (badP n 0).map (·.1)
theorem badP_fst (n g : Nat) : (badP n g).map (·.1) = badL n := rfl
def badO (n g : Nat) : List Obj :=
  [.cells ([(⟨4, 0, 0, 0⟩ : CaseD)].flatMap caseC).toArray 39, .cells ([(⟨3, 1, 0, 0⟩ : CaseD)].flatMap caseC).toArray 39, .cells ([(⟨3, 0, 0, 0⟩ : CaseD), ⟨1, 0, 0, 0⟩].flatMap caseC).toArray 39, .cells ([(⟨1, 0, 0, 0⟩ : CaseD), ⟨1, 0, 0, 0⟩, ⟨1, 0, 0, 0⟩, ⟨3, 0, 0, 0⟩].flatMap caseC).toArray 39, .cells ([(⟨2, 0, 0, (n : Int) + 1⟩ : CaseD)].flatMap caseC).toArray 39, .cells ([(⟨1, 0, 0, 0⟩ : CaseD)].flatMap caseC).toArray 39, .cells ((badP n g).flatMap fun p => instrC p.1 p.2).toArray 37]
theorem bad_reads (w : World) (n : Nat) : kI.C (allocs w (badO n w.heap.size)) (some ⟨w.heap.size + 6, 0, none⟩) 21 (badL n) := by
  have hat := fun i o (h : (badO n w.heap.size)[i]? = some o) => allocs_at _ w i o h
  have nil : ∀ (o a b c : Int), kI.K (allocs w (badO n w.heap.size)) ⟨o, a, b, c, []⟩ (instrC ⟨o, a, b, c, []⟩ (.slice none 0 0)) := fun o a b c => kI_mk _ ⟨o, a, b, c, []⟩ (Nat.le_refl _) ⟨rfl, Nat.zero_le _, fun h => by simp at h⟩
  have hr := reps_pairs (allocs w (badO n w.heap.size)) (badP n w.heap.size) (fun p hp => ?_) [] [] (Reps.none _ _)
  · rw [List.nil_append, List.nil_append, badP_fst] at hr
    refine reps_reads hr (show (21 : Nat) ≤ 9223372036854775807 by omega) (fun j u hj => ?_)
    rw [cell_of_row _ _ j _ 37 (0, 0) (hat 6 _ rfl), List.getElem?_toArray]
    exact hj
  · simp only [badP, List.mem_cons, List.not_mem_nil, or_false] at hp
    rcases hp with rfl | rfl | rfl | rfl | rfl | rfl | rfl | rfl | rfl | rfl | rfl | rfl | rfl | rfl | rfl | rfl | rfl | rfl | rfl | rfl | rfl
    all_goals
      first
        | exact nil _ _ _ _
        | exact kI_mk _ ⟨_, _, _, _, _⟩ (Nat.le_refl _) (lit_cases _ (hat 0 _ rfl) (by simp))
        | exact kI_mk _ ⟨_, _, _, _, _⟩ (Nat.le_refl _) (lit_cases _ (hat 1 _ rfl) (by simp))
        | exact kI_mk _ ⟨_, _, _, _, _⟩ (Nat.le_refl _) (lit_cases _ (hat 2 _ rfl) (by simp))
        | exact kI_mk _ ⟨_, _, _, _, _⟩ (Nat.le_refl _) (lit_cases _ (hat 3 _ rfl) (by simp))
        | exact kI_mk _ ⟨_, _, _, _, _⟩ (Nat.le_refl _) (lit_cases _ (hat 4 _ rfl) (by simp))
        | exact kI_mk _ ⟨_, _, _, _, _⟩ (Nat.le_refl _) (lit_cases _ (hat 5 _ rfl) (by simp))

def wantB (W : Nat) : Int := if W = 11 ∨ W = 12 ∨ W = 18 then 6 else 5
theorem bad_all : ((List.range 41).all fun n => (List.range 21).all fun W => lookR ((badL n).getD W instrZ) (n + 1) == wantB W) = true := by decide +kernel
theorem bad_look (n W : Nat) (hn : n ≤ 40) (hW : W < 21) : lookR ((badL n).getD W instrZ) (n + 1) = wantB W := by
  have h := bad_all
  rw [List.all_eq_true] at h
  have h := h n (List.mem_range.2 (by omega))
  rw [List.all_eq_true] at h
  exact eq_of_beq (h W (List.mem_range.2 hW))
/-- A program with one that may not be is told by its place. -/
theorem wrong_valid (l : List InstrD) (k : Nat) (b : InstrD) (e : Int) (hk : k ≤ (pcodeR l).length) (hb : lookR b ((pcodeR l).length + 1) = e) (he : e ≠ 0) :
    validR ((pcodeR l).take k ++ [b] ++ (pcodeR l).drop k) = ((k : Int) + 1, e) := by
  have h := pcode_len l
  have hl : ((pcodeR l).take k ++ [b] ++ (pcodeR l).drop k).length = (pcodeR l).length + 1 := by simp; omega
  unfold validR
  rw [hl, if_neg (by omega), if_neg (by omega), List.append_assoc, valF_append _ _ _ _ (fun x hx => pcode_look l _ (by omega) x (List.mem_of_mem_take hx))]
  rw [List.length_take, show 0 + min k (pcodeR l).length = k by omega, List.singleton_append]
  unfold valF
  rw [hb, if_neg he]

theorem kI_inner {w : World} {A : Option Addr} {n : Nat} {l : List InstrD} (h : kI.C w A n l) : ∃ cells, Reps (kI.K w) 5 l cells ∧ RowAt w A cells := by
  by_cases h0 : 0 < n
  · obtain ⟨ad, hA, _⟩ := h.2.2 h0
    subst hA
    obtain ⟨inner, hr, hc⟩ := ReadsRow.inner_ h
    obtain ⟨x, hx⟩ : ∃ x, l[0]? = some x := ⟨_, List.getElem?_eq_getElem (by have := h.1; omega)⟩
    obtain ⟨b, o, A4, c4, hAd, _⟩ := instr_at h 0 x hx
    obtain rfl := Option.some.inj hAd
    refine ⟨inner, hr, .inr ⟨b, o, rfl, fun j u hj => ?_⟩⟩
    have := hc j u hj
    rw [Addr.add_lit] at this
    exact this
  · obtain rfl : l = [] := List.eq_nil_of_length_eq_zero (by have := h.1; omega)
    exact ⟨[], Reps.none _ _, .inl rfl⟩
theorem reps_append {α : Type} {R : α → List Value → Prop} {ps qs : List α} {cs ds : List Value} (h : Reps R 5 ps cs) (k : Reps R 5 qs ds) : Reps R 5 (ps ++ qs) (cs ++ ds) := by
  refine ⟨by rw [List.length_append, List.length_append, h.1, k.1]; omega, fun j p hj => ?_⟩
  have hl := h.1
  rcases Nat.lt_or_ge j ps.length with hlt | hge
  · rw [List.getElem?_append_left hlt] at hj
    have h2 := h.2 j p hj
    rw [List.drop_append_of_le_length (by omega), List.take_append_of_le_length (by rw [List.length_drop]; omega)]
    exact h2
  · rw [List.getElem?_append_right hge] at hj
    have h2 := k.2 _ p hj
    have e : (cs ++ ds).drop (j * 5) = ds.drop ((j - ps.length) * 5) := by
      rw [List.drop_append, List.drop_eq_nil_of_le (by omega), List.nil_append]
      congr 1
      omega
    rw [e]
    exact h2
theorem reps_take {α : Type} {R : α → List Value → Prop} {ps : List α} {cs : List Value} (h : Reps R 5 ps cs) (k : Nat) : Reps R 5 (ps.take k) (cs.take (k * 5)) := by
  have hl := h.1
  refine ⟨by rw [List.length_take, List.length_take]; omega, fun j p hj => ?_⟩
  rw [List.getElem?_take] at hj
  split at hj
  · have h2 := h.2 j p hj
    have hjl := (List.getElem?_eq_some_iff.1 hj).1
    rw [List.drop_take, List.take_take, show min 5 (k * 5 - j * 5) = 5 by omega]
    exact h2
  · cases hj
theorem reps_drop {α : Type} {R : α → List Value → Prop} {ps : List α} {cs : List Value} (h : Reps R 5 ps cs) (k : Nat) : Reps R 5 (ps.drop k) (cs.drop (k * 5)) := by
  have hl := h.1
  refine ⟨by rw [List.length_drop, List.length_drop]; omega, fun j p hj => ?_⟩
  rw [List.getElem?_drop] at hj
  have h2 := h.2 _ p hj
  rw [List.drop_drop, show k * 5 + j * 5 = (k + j) * 5 by omega]
  exact h2
theorem reps_world {w w1 : World} (hb : Below w.heap.size w w1) {l : List InstrD} {cs : List Value} (h : Reps (kI.K w) 5 l cs) : Reps (kI.K w1) 5 l cs := ⟨h.1, fun j p hj => kI.K_below hb (h.2 j p hj)⟩
theorem Tryd.slI : SlT Tryd.prog 22 37 (.agg #[(.int .i64 0), (.int .i64 0), (.int .i64 0), (.int .i64 0), (.slice none 0 0)]) 5 56 := ⟨Tryd.underlying22, Tryd.infoI, rfl, by decide⟩
theorem reps_one' {w : World} {l : List InstrD} {cs : List Value} (h : Reps (kI.K w) 5 l cs) : ∀ u ∈ cs, u.oneCell' = true := by
  intro u hu
  obtain ⟨i, hi⟩ := List.getElem?_of_mem hu
  have hil := (List.getElem?_eq_some_iff.1 hi).1
  have hl := h.1
  obtain ⟨x, hx⟩ : ∃ x, l[i / 5]? = some x := ⟨_, List.getElem?_eq_getElem (by omega)⟩
  have hK := kI.K_one (h.2 _ x hx)
  refine hK u (List.mem_of_getElem? (i := i % 5) ?_)
  rw [List.getElem?_take, if_pos (by omega), List.getElem?_drop, show i / 5 * 5 + i % 5 = i by omega]
  exact hi
end Go.Proofs.YtoflhfiegfhkoaaDoor
