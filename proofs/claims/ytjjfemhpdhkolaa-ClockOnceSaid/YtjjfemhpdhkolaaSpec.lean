/-
  The plain functions that the program's functions compute: entries of scripts. No program and no memory here.
-/
namespace Go.Proofs.Ytjjfemhpdhkolaa

structure Ent where
  kind : Int
  n : Int
  draw : Int
  deriving DecidableEq

def entOf (p q : Int) : Ent :=
  if p < 160 then ⟨1, p % 16, q % 16⟩ else if p < 192 then ⟨2, q % 32, 0⟩ else if p < 240 then ⟨3, q % 64, 0⟩ else ⟨4, 0, 0⟩

/-- The k-th entry of bytes. -/
def entAt (zs : List Int) (k : Nat) : Ent := entOf (zs.getD (2 * k) 0) (zs.getD (2 * k + 1) 0)

def entCount (zs : List Int) : Nat := min 400 ((zs.length + 1) / 2)

def entries (zs : List Int) : List Ent := (List.range (entCount zs)).map (entAt zs)

def entsTo (zs : List Int) (k : Nat) : List Ent := (List.range k).map (entAt zs)

theorem length_entsTo (zs : List Int) (k : Nat) : (entsTo zs k).length = k := by simp [entsTo]
theorem entsTo_succ (zs : List Int) (k : Nat) : entsTo zs (k + 1) = entsTo zs k ++ [entAt zs k] := by simp [entsTo, List.range_succ]
theorem length_entries (zs : List Int) : (entries zs).length = entCount zs := by simp [entries]

/-- All entries of bytes, however many. -/
def rawEnts (zs : List Int) : List Ent := (List.range ((zs.length + 1) / 2)).map (entAt zs)
theorem entries_raw (zs : List Int) : entries zs = (rawEnts zs).take 400 := by
  unfold entries rawEnts entCount
  rw [← List.map_take, List.take_range]
theorem length_raw (zs : List Int) : (rawEnts zs).length = (zs.length + 1) / 2 := by simp [rawEnts]
theorem raw_append (A B : List Int) (j : Nat) (h : A.length = 2 * j) : rawEnts (A ++ B) = rawEnts A ++ rawEnts B := by
  apply List.ext_getElem
  · simp [length_raw]; omega
  · intro i h1 h2
    simp only [rawEnts, List.length_append, List.getElem_map, List.getElem_range, List.getElem_append, List.length_map, List.length_range]
    split
    · rename_i hi
      unfold entAt
      simp only [List.getD_eq_getElem?_getD]
      rw [List.getElem?_append_left (by omega), List.getElem?_append_left (by omega)]
    · rename_i hi
      unfold entAt
      simp only [List.getD_eq_getElem?_getD]
      rw [List.getElem?_append_right (by omega), List.getElem?_append_right (by omega)]
      rw [show 2 * i - A.length = 2 * (i - (A.length + 1) / 2) by omega, show 2 * i + 1 - A.length = 2 * (i - (A.length + 1) / 2) + 1 by omega]
theorem take_take_app {α : Type} (A B : List α) (k : Nat) : (A.take k ++ B.take k).take k = (A ++ B).take k := by
  rw [List.take_append, List.take_append, List.take_take, List.take_take]
  congr 1
  · congr 1; omega
  · rw [List.length_take]
    by_cases h : A.length ≤ k
    · congr 1; omega
    · rw [show k - min k A.length = 0 by omega, show k - A.length = 0 by omega]; simp
theorem entries_append (A B : List Int) (j : Nat) (h : A.length = 2 * j) : entries (A ++ B) = (entries A ++ entries B).take 400 := by
  rw [entries_raw, entries_raw, entries_raw, raw_append A B j h, take_take_app]
end Go.Proofs.Ytjjfemhpdhkolaa
