/-
  What the library's variables hold, and that it lasts.
-/
import Derived.Test.YtoflhfiegfhkoaaDoorKFind
namespace Go.Proofs.YtoflhfiegfhkoaaDoor
open Go.RowKit Go.Proofs.YtoflhfiegfhkoaaDoorW.PrintWords
set_option linter.unusedVariables false

theorem gBlanks : Tryd.prog.globalNamed "strings.asciiSpace" = some 0 := by kernel_rfl
theorem gPow10 : Tryd.prog.globalNamed "internal/strconv.uint64pow10" = some 5 := by kernel_rfl
def Pow10 (w : World) : Prop := Lib.TabIs Tryd.prog w "internal/strconv.uint64pow10" .u64 Lib.pow10Tab

theorem tab_keep {S : Nat → Prop} {w w' : World} {name : String} {k : IntKind} {zs : List Int} {g : Nat} (hg : Tryd.prog.globalNamed name = some g) (h : Lib.TabIs Tryd.prog w name k zs) (hk : Keep S w w') (hs : ¬ S g) : Lib.TabIs Tryd.prog w' name k zs := by
  unfold Lib.TabIs World.var? at h ⊢
  rw [hg] at h ⊢
  simp only [Option.bind_some] at h ⊢
  have hlt : g < w.heap.size := by
    rcases Nat.lt_or_ge g w.heap.size with h' | h'
    · exact h'
    · rw [Array.getElem?_eq_none h'] at h; cases h
  rw [hk.block g hlt hs]
  exact h
theorem tab_lt {w : World} {name : String} {k : IntKind} {zs : List Int} {g : Nat} (hg : Tryd.prog.globalNamed name = some g) (h : Lib.TabIs Tryd.prog w name k zs) : g < w.heap.size := by
  unfold Lib.TabIs World.var? at h
  rw [hg] at h
  simp only [Option.bind_some] at h
  rcases Nat.lt_or_ge g w.heap.size with h' | h'
  · exact h'
  · rw [Array.getElem?_eq_none h'] at h; cases h
theorem Blanks.keepS {S : Nat → Prop} {w w' : World} (h : Blanks w) (hk : Keep S w w') (hs : ¬ S 0) : Blanks w' := tab_keep gBlanks h hk hs
theorem Blanks.below {w w' : World} (h : Blanks w) (hb : Below w.heap.size w w') : Blanks w' := h.keepS (S := fun _ => False) (.of_below hb) (fun h => h)
theorem Blanks.lt {w : World} (h : Blanks w) : 0 < w.heap.size := tab_lt gBlanks h
theorem Pow10.below {w w' : World} (h : Pow10 w) (hb : Below w.heap.size w w') : Pow10 w' := tab_keep gPow10 h (S := fun _ => False) (.of_below hb) (fun h => h)

/-- What a call finds of the library's variables. -/
structure Env (w : World) : Prop where
  bl : Blanks w
  mx : ∃ m, w.cell? ⟨2, 0, none⟩ = some (.int .i64 m)
theorem Env.below {w w' : World} (h : Env w) (hb : Below w.heap.size w w') : Env w' := by
  obtain ⟨m, hm⟩ := h.mx
  exact ⟨h.bl.below hb, m, (hb.cell (p := ⟨2, 0, none⟩) (World.block_lt_of_cell? w _ hm)).trans hm⟩

/-! ### the forms -/
def fP (l : List UInt8) : List Nat := l.map (·.toNat)
def formsB : ByteArray := ⟨#[61, 97, 78, 32, 60, 97, 98, 32, 43, 97, 98, 32, 109, 97, 78, 32, 115, 97, 98, 32, 114, 97, 98, 32, 99, 97, 32, 108, 97, 98, 32, 107, 97, 98, 32, 103, 78, 32, 106, 78, 32, 122, 97, 78, 32, 111, 97, 32, 116, 97, 78, 32, 98, 97, 98, 32, 117, 97, 98, 32, 119, 97, 98, 32, 112, 68, 97, 32, 113, 97, 78, 32, 102, 97, 78, 32, 83, 32, 120]⟩
def casesB : ByteArray := ⟨#[115, 97, 98, 78, 32, 114, 97, 98, 78, 32, 101, 78]⟩
def formsL : List (List Nat) := [[61, 97, 78], [60, 97, 98], [43, 97, 98], [109, 97, 78], [115, 97, 98], [114, 97, 98], [99, 97], [108, 97, 98], [107, 97, 98], [103, 78], [106, 78], [122, 97, 78], [111, 97], [116, 97, 78], [98, 97, 98], [117, 97, 98], [119, 97, 98], [112, 68, 97], [113, 97, 78], [102, 97, 78], [83], [120]]
def casesL : List (List Nat) := [[115, 97, 98, 78], [114, 97, 98, 78], [101, 78]]
theorem toL_inj (l : List (List UInt8)) (Ps : List (List Nat)) (h : l = Ps.map (List.map UInt8.ofNat)) : l.map (fun l => Value.string ⟨l.toArray⟩) = Ps.map fun P => Value.string (strA P) := by
  subst h
  rw [List.map_map]
  rfl
theorem forms_of : FieldsOf formsB formsL where
  eq := toL_inj _ _ (by decide +kernel)
  len := by decide +kernel
  asc := fun j b h => by
    have : ∀ b ∈ formsB.data.toList, b.toNat < 128 := by decide +kernel
    exact this b (List.mem_of_getElem? h)
  size := by decide
  few := by decide
  each := by decide +kernel
theorem cases_of : FieldsOf casesB casesL where
  eq := toL_inj _ _ (by decide +kernel)
  len := by decide +kernel
  asc := fun j b h => by
    have : ∀ b ∈ casesB.data.toList, b.toNat < 128 := by decide +kernel
    exact this b (List.mem_of_getElem? h)
  size := by decide
  few := by decide
  each := by decide +kernel
/-- What is found is one of them. -/
theorem findF_mem (c : Int) : ∀ (Ps : List (List Nat)) (i : Nat), (findF c i Ps).2.2 = true → (findF c i Ps).2.1 ∈ Ps ∧ i < (findF c i Ps).1 ∧ (findF c i Ps).1 ≤ i + Ps.length
  | [], i, h => by simp [findF] at h
  | P :: r, i, h => by
    unfold findF at h ⊢
    split
    · simp
    · rename_i hc
      rw [if_neg hc] at h
      obtain ⟨h1, h2, h3⟩ := findF_mem c r (i + 1) h
      exact ⟨List.mem_cons_of_mem _ h1, by omega, by simp; omega⟩
theorem findF_asc {c : Int} {Ps : List (List Nat)} {all : ByteArray} (hf : FieldsOf all Ps) (i : Nat) : (∀ x ∈ (findF c i Ps).2.1, x < 128) ∧ (findF c i Ps).2.1.length ≤ 100 := by
  cases h : (findF c i Ps).2.2
  · have : ∀ (Ps : List (List Nat)) (i : Nat), (findF c i Ps).2.2 = false → (findF c i Ps).2.1 = [] := by
      intro Ps
      induction Ps with
      | nil => intro i _; rfl
      | cons P r ih =>
        intro i h
        unfold findF at h ⊢
        split
        · rename_i hc; rw [if_pos hc] at h; simp at h
        · rename_i hc; rw [if_neg hc] at h; exact ih _ h
    rw [this Ps i h]
    simp
  · obtain ⟨h1, _⟩ := findF_mem c Ps i h
    obtain ⟨_, h2, h3⟩ := hf.each _ h1
    exact ⟨h2, h3⟩
end Go.Proofs.YtoflhfiegfhkoaaDoor
