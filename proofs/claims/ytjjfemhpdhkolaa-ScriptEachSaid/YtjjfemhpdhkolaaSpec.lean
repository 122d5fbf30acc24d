/-
  The plain functions that the program's functions compute: entries of scripts. No program and no memory here.
-/
namespace Go.Proofs.Ytjjfemhpdhkolaa

structure Ent where
  kind : Int
  n : Int
  draw : Int
  deriving DecidableEq

def entOf (p q : Int) : Ent :=
  if p < 160 then ⟨1, p % 16, q % 16⟩ else if p < 192 then ⟨2, q % 32, 0⟩ else if p < 240 then ⟨3, q % 64, 0⟩ else ⟨4, 0, 0⟩

/-- The k-th entry of bytes. -/
def entAt (zs : List Int) (k : Nat) : Ent := entOf (zs.getD (2 * k) 0) (zs.getD (2 * k + 1) 0)

def entCount (zs : List Int) : Nat := min 400 ((zs.length + 1) / 2)

def entries (zs : List Int) : List Ent := (List.range (entCount zs)).map (entAt zs)

def entsTo (zs : List Int) (k : Nat) : List Ent := (List.range k).map (entAt zs)

theorem length_entsTo (zs : List Int) (k : Nat) : (entsTo zs k).length = k := by simp [entsTo]
theorem entsTo_succ (zs : List Int) (k : Nat) : entsTo zs (k + 1) = entsTo zs k ++ [entAt zs k] := by simp [entsTo, List.range_succ]
theorem length_entries (zs : List Int) : (entries zs).length = entCount zs := by simp [entries]

end Go.Proofs.Ytjjfemhpdhkolaa
