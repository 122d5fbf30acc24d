/-
  Entries as bytes: the plain functions. No program and no memory here.
-/
import Derived.Test.YtjjfemhpdhkolaaSpec
namespace Go.Proofs.Ytjjfemhpdhkolaa

def pq1 (e : Ent) : Int × Int := if e.kind = 1 then (e.n % 256, e.draw % 256) else if e.kind = 2 then (160, e.n % 256) else if e.kind = 3 then (192, e.n % 256) else (240, 0)
def pq2 (e : Ent) : Int × Int := if e.kind = 2 then (160, e.n % 256) else if e.kind = 3 then (192, e.n % 256) else if e.kind = 4 then (240, 0) else (e.n % 256, e.draw % 256)
def bs (f : Ent → Int × Int) (l : List Ent) : List Int := l.flatMap fun e => [(f e).1, (f e).2]
def bytesOf (l : List Ent) : List Int × Int := if l.length ≤ 400 ∧ entries (bs pq1 l) = l then (bs pq1 l, 0) else ([], 1)
def refBytesOf (l : List Ent) : List Int × Int := if entries (bs pq2 l) = l then (bs pq2 l, 0) else ([], 1)

theorem length_bs (f : Ent → Int × Int) (l : List Ent) : (bs f l).length = 2 * l.length := by
  induction l with
  | nil => rfl
  | cons a l ih => simp [bs] at *; omega
theorem bs_append (f : Ent → Int × Int) (a b : List Ent) : bs f (a ++ b) = bs f a ++ bs f b := by simp [bs]
theorem bs_one (f : Ent → Int × Int) (a : Ent) : bs f [a] = [(f a).1, (f a).2] := by simp [bs]

def rt (f : Ent → Int × Int) (e : Ent) : Ent := entOf (f e).1 (f e).2

theorem rawEnts_bs (f : Ent → Int × Int) (l : List Ent) : rawEnts (bs f l) = l.map (rt f) := by
  induction l with
  | nil => simp [rawEnts, bs]
  | cons a l ih =>
    have e : bs f (a :: l) = bs f [a] ++ bs f l := by rw [← bs_append]; rfl
    rw [e, raw_append _ _ 1 (by rw [length_bs]; simp), ih, bs_one]
    simp [rawEnts, entAt, rt]
theorem entries_bs (f : Ent → Int × Int) (l : List Ent) : entries (bs f l) = (l.map (rt f)).take 400 := by rw [entries_raw, rawEnts_bs]

/-- Entries that bytes tell. -/
def Good (e : Ent) : Prop := (e.kind = 1 ∧ 0 ≤ e.n ∧ e.n < 16 ∧ 0 ≤ e.draw ∧ e.draw < 16) ∨ (e.kind = 2 ∧ 0 ≤ e.n ∧ e.n < 32 ∧ e.draw = 0) ∨ (e.kind = 3 ∧ 0 ≤ e.n ∧ e.n < 64 ∧ e.draw = 0) ∨ (e.kind = 4 ∧ e.n = 0 ∧ e.draw = 0)

theorem good_entOf (p q : Int) : Good (entOf p q) := by
  unfold Good entOf
  repeat' split
  all_goals simp
  all_goals omega

theorem pq_good {e : Ent} (h : Good e) : pq1 e = pq2 e := by
  unfold Good at h
  unfold pq1 pq2
  repeat' split
  all_goals first | rfl | omega

theorem rt_good {e : Ent} (h : Good e) : rt pq1 e = e := by
  obtain ⟨k, n, d⟩ := e
  unfold Good at h
  unfold rt pq1 entOf
  simp only at h ⊢
  rcases h with ⟨rfl, h⟩ | ⟨rfl, h⟩ | ⟨rfl, h⟩ | ⟨rfl, rfl, rfl⟩
  · simp; rw [if_pos (by omega)]; simp; omega
  · simp; omega
  · simp; omega
  · simp

theorem map_eq_of {α : Type} {f : α → α} {l : List α} (h : ∀ x ∈ l, f x = x) : l.map f = l := by
  induction l with
  | nil => rfl
  | cons a l ih => simp at *; exact ⟨h.1, ih h.2⟩

theorem back_good {f : Ent → Int × Int} {l : List Ent} (h : entries (bs f l) = l) : l.length ≤ 400 ∧ ∀ e ∈ l, rt f e = e := by
  rw [entries_bs] at h
  have hl : l.length ≤ 400 := by have := congrArg List.length h; simp at this; omega
  refine ⟨hl, ?_⟩
  rw [List.take_of_length_le (by simpa using hl)] at h
  intro e he
  obtain ⟨i, hi, rfl⟩ := List.getElem_of_mem he
  have h1 : (l.map (rt f))[i]'(by simpa using hi) = l[i] := by congr 1
  simpa using h1

theorem good_of_rt {f : Ent → Int × Int} {e : Ent} (h : rt f e = e) : Good e := h ▸ good_entOf _ _

theorem bs_congr {l : List Ent} (h : ∀ e ∈ l, Good e) : bs pq1 l = bs pq2 l := by
  induction l with
  | nil => rfl
  | cons a l ih =>
    have e1 : bs pq1 (a :: l) = [(pq1 a).1, (pq1 a).2] ++ bs pq1 l := rfl
    have e2 : bs pq2 (a :: l) = [(pq2 a).1, (pq2 a).2] ++ bs pq2 l := rfl
    rw [e1, e2, ih (fun e he => h e (List.mem_cons_of_mem _ he)), pq_good (h a (List.mem_cons_self))]

theorem bytes_ref (l : List Ent) : refBytesOf l = bytesOf l := by
  unfold refBytesOf bytesOf
  by_cases h2 : entries (bs pq2 l) = l
  · obtain ⟨hl, hr⟩ := back_good h2
    have hc := bs_congr (fun e he => good_of_rt (hr e he))
    rw [if_pos h2, hc, if_pos ⟨hl, h2⟩]
  · rw [if_neg h2]
    by_cases h1 : l.length ≤ 400 ∧ entries (bs pq1 l) = l
    · obtain ⟨hl, hr⟩ := back_good h1.2
      have hc := bs_congr (fun e he => good_of_rt (hr e he))
      rw [hc] at h1
      exact absurd h1.2 h2
    · rw [if_neg h1]

theorem good_back {l : List Ent} (hl : l.length ≤ 400) (h : ∀ e ∈ l, Good e) : entries (bs pq1 l) = l := by
  rw [entries_bs, map_eq_of (fun e he => rt_good (h e he)), List.take_of_length_le hl]
theorem bytesOf_good {l : List Ent} (hl : l.length ≤ 400) (h : ∀ e ∈ l, Good e) : bytesOf l = (bs pq1 l, 0) := by
  unfold bytesOf
  rw [if_pos ⟨hl, good_back hl h⟩]
theorem entries_good (zs : List Int) : ∀ e ∈ entries zs, Good e := by
  intro e he
  simp [entries, entAt] at he
  obtain ⟨k, _, rfl⟩ := he
  exact good_entOf _ _
theorem bs_bounds (f : Ent → Int × Int) (hp : ∀ e, 0 ≤ (f e).1 ∧ (f e).1 < 256 ∧ 0 ≤ (f e).2 ∧ (f e).2 < 256) (l : List Ent) : ∀ j, 0 ≤ (bs f l).getD j 0 ∧ (bs f l).getD j 0 < 256 := by
  have hb : ∀ z ∈ bs f l, 0 ≤ z ∧ z < 256 := by
    intro z hz
    simp [bs] at hz
    obtain ⟨e, _, h⟩ := hz
    have := hp e
    rcases h with rfl | rfl <;> omega
  intro j
  rw [List.getD_eq_getElem?_getD]
  by_cases hj : j < (bs f l).length
  · rw [List.getElem?_eq_getElem hj]
    exact hb _ (List.getElem_mem hj)
  · rw [List.getElem?_eq_none (by omega)]; simp
theorem pq1_bounds (e : Ent) : 0 ≤ (pq1 e).1 ∧ (pq1 e).1 < 256 ∧ 0 ≤ (pq1 e).2 ∧ (pq1 e).2 < 256 := by
  unfold pq1
  repeat' split
  all_goals simp
  all_goals omega
theorem pq2_bounds (e : Ent) : 0 ≤ (pq2 e).1 ∧ (pq2 e).1 < 256 ∧ 0 ≤ (pq2 e).2 ∧ (pq2 e).2 < 256 := by
  unfold pq2
  repeat' split
  all_goals simp
  all_goals omega
theorem bytesOf_bounds (l : List Ent) : ∀ j, 0 ≤ (bytesOf l).1.getD j 0 ∧ (bytesOf l).1.getD j 0 < 256 := by
  intro j
  unfold bytesOf
  split
  · exact bs_bounds pq1 pq1_bounds l j
  · simp
end Go.Proofs.Ytjjfemhpdhkolaa
