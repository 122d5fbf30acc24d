/-
  The walk over text.Lines.
-/
import Derived.Test.YtoflhfiegfhkoaaDoorXText
import Derived.Test.YtoflhfiegfhkoaaDoorShelf
import Derived.Lib.SplitLaws
import Derived.Lib.ReplaceLaws
namespace Go.Proofs.YtoflhfiegfhkoaaDoor
open Go.RowKit
set_option linter.unusedVariables false

def nlB : ByteArray := ⟨#[10]⟩
def blB : ByteArray := ⟨#[32]⟩
/-- A line without its blanks. -/
def stripB (x : ByteArray) : ByteArray := ⟨(Lib.replaceAll x.data.toList blB.data.toList (⟨#[]⟩ : ByteArray).data.toList).toArray⟩
def piecesB (s : ByteArray) : List ByteArray := Lib.splitB nlB 0 (Lib.countB s nlB) s
def full (x : ByteArray) : Bool := !x.toList.isEmpty
def keepB (l : List ByteArray) : List ByteArray := (l.map stripB).filter full
/-- A text's lines, or why not. -/
def linesR (s : ByteArray) : List ByteArray × Int :=
  if 2000 < (runesF s 0).length then ([], 3) else if mayAll s = false then ([], 4) else if (keepB (piecesB s)).length = 0 then ([], 7) else if 60 < (keepB (piecesB s)).length then ([], 3) else (keepB (piecesB s), 0)

theorem splitB_le (sep : ByteArray) : ∀ (k : Nat) (s x : ByteArray), x ∈ Lib.splitB sep 0 k s → x.size ≤ s.size
  | 0, s, x, h => by rw [Lib.splitB_zero] at h; simp at h; rw [h]; exact Nat.le_refl _
  | k + 1, s, x, h => by
    unfold Lib.splitB at h
    split at h
    · simp at h; rw [h]; exact Nat.le_refl _
    · rcases List.mem_cons.1 h with rfl | h
      · rw [ByteArray.size_extract]; omega
      · have := splitB_le sep k _ x h
        rw [ByteArray.size_extract] at this
        omega
theorem pieces_le (s x : ByteArray) (h : x ∈ piecesB s) : x.size ≤ s.size := splitB_le _ _ _ _ h
theorem pieces_len (s : ByteArray) : (piecesB s).length = Lib.countB s nlB + 1 := Lib.splitB_all nlB (by decide) 0 _ _ rfl
theorem count_le (s : ByteArray) : Lib.countB s nlB ≤ s.size := Lib.countB_le nlB (by decide) s.size s (Nat.le_refl _)
theorem keep_step {l : List ByteArray} {k : Nat} {x : ByteArray} (hx : l[k]? = some x) : keepB (l.take (k + 1)) = keepB (l.take k) ++ keepB [x] := by
  rw [List.take_add_one, hx]
  simp [keepB]

theorem Tryd.slStr : SlT Tryd.prog 52 9 (.string ⟨#[]⟩) 1 16 := ⟨Tryd.underlying52, by kernel_rfl, rfl, by decide⟩
theorem strs_one (l : List ByteArray) : ∀ u ∈ l.map Value.string, u.oneCell' = true := by
  intro u hu
  rw [List.mem_map] at hu
  obtain ⟨x, _, rfl⟩ := hu
  rfl
/-- What Lines leaves. -/
def LinesPost (w : World) (L : List ByteArray) (err : Int) (e : Ending) (w' : World) : Prop :=
  ∃ ao cap, e = .returned (.tuple #[.slice ao L.length cap, .int .i64 err]) ∧ w'.ownsRow w.heap.size 9 1 (.slice ao L.length cap) L.length (L.map Value.string) ∧ Below w.heap.size w w'

set_option maxRecDepth 100000 in
set_option maxHeartbeats 1600000 in
theorem lines_any (s : ByteArray) (mx : Int) (w : World) (hm : w.cell? ⟨2, 0, none⟩ = some (.int .i64 mx)) (hs : s.size ≤ 1000000) :
    Calls Tryd.prog 35 #[.string s] w (LinesPost w (linesR s).1 (linesR s).2) := by
  have hl := look_any s w (by omega)
  have hml := World.block_lt_of_cell? w _ hm
  have hn := runesF_len s 0
  obtain ⟨N, hN⟩ : ∃ N, (runesF s 0).length = N := ⟨_, rfl⟩
  rw [hN] at hl hn
  by_cases h2000 : 2000 < N
  · have hr : linesR s = ([], 3) := by unfold linesR; rw [if_pos (by rw [hN]; exact h2000)]
    have g1 : (2000 : Int) < (N : Int) := by omega
    have HR := hidP hr
    clear hr hN h2000
    go_enter Tryd.func35, Tryd.ntmps35
    go_wp2_with fail
    refine hl.mono ?_
    rintro e w1 ⟨rfl, hb1⟩
    go_wp2
    go_ret2
    rw [HR.out]
    exact ⟨none, 0, rfl, World.ownsRow_nil _ _ _ _, hb1⟩
  · have g1 : ¬ ((2000 : Int) < (N : Int)) := by omega
    cases hmay : mayAll s
    · have hr : linesR s = ([], 4) := by unfold linesR; rw [if_neg (by rw [hN]; exact h2000), if_pos hmay]
      rw [hmay] at hl
      have HR := hidP hr
      clear hr hN h2000 hmay
      go_enter Tryd.func35, Tryd.ntmps35
      go_wp2_with fail
      refine hl.mono ?_
      rintro e w1 ⟨rfl, hb1⟩
      go_wp2
      go_ret2
      rw [HR.out]
      exact ⟨none, 0, rfl, World.ownsRow_nil _ _ _ _, hb1⟩
    · rw [hmay] at hl
      obtain ⟨K, hK⟩ : ∃ K, keepB (piecesB s) = K := ⟨_, rfl⟩
      have hr : linesR s = if K.length = 0 then ([], 7) else if 60 < K.length then ([], 3) else (K, 0) := by
        unfold linesR
        rw [if_neg (by rw [hN]; exact h2000), if_neg (by rw [hmay]; simp), hK]
      have HR := hidP hr
      have HK := hidP hK
      have hpl := pieces_len s
      have hcl := count_le s
      obtain ⟨C, hC⟩ : ∃ C, Lib.countB s nlB + 1 = C := ⟨_, rfl⟩
      rw [hC] at hpl
      have HPL := hidP hpl
      have hCb : C ≤ 1000001 := by omega
      have HPS : Hid (∀ x ∈ piecesB s, x.size ≤ 1000000) := fun x hx => by have := pieces_le s x hx; omega
      have hsp := fun w hm => Tryd.strings_Split s nlB mx w (by omega) hm (by decide)
      have e1 : (Lib.splitB nlB 0 (Lib.countB s nlB) s) = piecesB s := rfl
      rw [e1, hC] at hsp
      have HSP := hidP hsp
      have HM := hidP hm
      clear hr hK hpl hN h2000 hmay hC hcl e1 hsp hm hn
      go_enter Tryd.func35, Tryd.ntmps35
      go_wp2_with fail
      refine hl.mono ?_
      rintro e w1 ⟨rfl, hb1⟩
      go_wp2_with fail
      have hm1 := (hb1.cell (p := ⟨2, 0, none⟩) hml).trans HM.out
      refine (HSP.out _ hm1).mono ?_
      rintro e w2 ⟨rfl, rfl⟩
      have hr2 := RowAt.new w1 ((piecesB s).map Value.string) 9
      have hb2 := bnew hb1 (.cells ((piecesB s).map Value.string).toArray 9)
      generalize hw2 : w1.alloc (.cells ((piecesB s).map Value.string).toArray 9) = w2 at *
      clear hw2
      go_wp2_with fail
      go_loopw [6, 23] (fun v6 v wr => ∃ (k j : Nat) (vo : Option Addr) (vc : Nat), v6 = .slice vo j vc ∧ v = .int .i64 k ∧ k ≤ C ∧ j ≤ k ∧ Hid ((keepB ((piecesB s).take k)).length = j) ∧ wr.ownsRow w2.heap.size 9 1 (.slice vo j vc) j ((keepB ((piecesB s).take k)).map Value.string) ∧ Below w.heap.size w wr ∧ Below w2.heap.size w2 wr) (fun _ v _ => C - (intOf v).toNat)
      case atStart => exact ⟨0, 0, none, 0, rfl, rfl, by omega, by omega, rfl, World.ownsRow_nil _ _ _ _, hb2, brefl _⟩
      case round =>
        obtain ⟨k, j, vo, vc, rfl, rfl, hk, hjk, HJ, hown, hb, hbr⟩ := hrel
        have hsr := hb.size
        by_cases hlt : k < C
        · obtain ⟨x, hx⟩ : ∃ x, (piecesB s)[k]? = some x := ⟨_, List.getElem?_eq_getElem (by rw [HPL.out]; exact hlt)⟩
          have cx : wr.cell? ⟨w1.heap.size, 0 + k, none⟩ = some (.string x) := (hr2.below hbr).some k _ (by rw [List.getElem?_map, hx]; rfl)
          rw [Nat.zero_add] at cx
          have hst := keep_step hx
          have hxs := HPS.out x (List.mem_of_getElem? hx)
          have hmr := (hb.cell (p := ⟨2, 0, none⟩) hml).trans HM.out
          have hrp := Tryd.strings_ReplaceAll x blB ⟨#[]⟩ mx wr (by omega) hmr (by decide) (by show x.size + Lib.countB x blB * 0 ≤ _; omega)
          have e2 : (⟨(Lib.replaceAll x.data.toList blB.data.toList (⟨#[]⟩ : ByteArray).data.toList).toArray⟩ : ByteArray) = stripB x := rfl
          rw [e2] at hrp
          have HST := hidP hst
          have HRP := hidP hrp
          clear hst hrp hx hmr e2
          cases hf : full (stripB x)
          · have t : (stripB x).toList.isEmpty = true := by simpa [full] using hf
            have hk1 : keepB [x] = [] := by simp [keepB, hf]
            rw [hk1, List.append_nil] at HST
            clear hf hk1
            go_wp2_with fail
            refine HRP.out.mono ?_
            rintro e w3 ⟨rfl, hb3⟩
            go_wp2
            go_roundw
            case rel => exact ⟨k + 1, j, vo, vc, rfl, by go_num, by omega, by omega, by show _ = _; rw [HST.out, HJ.out], by rw [HST.out]; exact owns_below hown hb3, bstep hb hb3, bstep hbr hb3⟩
            case measure => simp [intOf]; omega
          · have t : (stripB x).toList.isEmpty = false := by simpa [full] using hf
            have hk1 : keepB [x] = [stripB x] := by simp [keepB, hf]
            rw [hk1] at HST
            clear hf hk1
            go_wp2_with fail
            refine HRP.out.mono ?_
            rintro e w3 ⟨rfl, hb3⟩
            have hown3 := owns_below hown hb3
            have hB3 := bstep hb hb3
            go_wp2_with (at_builtin; go_loud (refine (wpList_app _ rfl (.tmp 31) (.tmp 33) rfl Tryd.slStr w2.heap.size (.slice vo j vc) j ((keepB ((piecesB s).take k)).map Value.string) rfl (hown3.alloc _) _ 1 1 [.string (stripB x)] rfl (j + 1) rfl (RowAt.new _ [.string (stripB x)] _) rfl (by simp; rfl) (by omega) (by unfold maxLen; omega) (by have := (bstep hbr hb3).size; simp; omega) ?_)); intro a4 c4 w4 ho4 hg4 hw4)
            have hs2 := hb2.size
            have hbr3 := bstep hbr hb3
            have hbr4 : Below w2.heap.size w2 w4 := (bnew hbr3 _).grown hg4 (by have := hbr3.size; simp; omega) (fun i hi => (hown.lt i hi).1)
            have hB4 : Below w.heap.size w w4 := bstep hb2 hbr4
            refine ⟨⟨k + 1, j + 1, a4, c4, rfl, by go_num, by omega, by omega, ?_, ?_, hB4, hbr4⟩, by simp [intOf]; omega⟩
            · show _ = _
              rw [HST.out, List.length_append, HJ.out]; rfl
            · rw [HST.out, List.map_append]
              exact ho4
        · have hl : (piecesB s).take k = piecesB s := List.take_of_length_le (by rw [HPL.out]; omega)
          have hj := HJ.out
          rw [hl, HK.out] at hown hj
          have HJ2 := hidP hj
          have hs2 := hb2.size
          have ho := owns_mono hown hs2
          clear hl hj
          by_cases h0 : j = 0
          · have hr : linesR s = ([], 7) := by rw [HR.out, if_pos (by rw [HJ2.out]; exact h0)]
            have t : ((j : Int) == 0) = true := by simp; omega
            have HR2 := hidP hr
            clear hr h0
            go_wp2
            go_ret2
            rw [HR2.out]
            exact ⟨none, 0, rfl, World.ownsRow_nil _ _ _ _, hb⟩
          · have t : ((j : Int) == 0) = false := by simp; omega
            by_cases h60 : 60 < j
            · have hr : linesR s = ([], 3) := by rw [HR.out, if_neg (by rw [HJ2.out]; exact h0), if_pos (by rw [HJ2.out]; exact h60)]
              have g : (60 : Int) < (j : Int) := by omega
              have HR2 := hidP hr
              clear hr h0
              go_wp2
              go_ret2
              rw [HR2.out]
              exact ⟨none, 0, rfl, World.ownsRow_nil _ _ _ _, hb⟩
            · have hr : linesR s = (K, 0) := by rw [HR.out, if_neg (by rw [HJ2.out]; exact h0), if_neg (by rw [HJ2.out]; exact h60)]
              have g : ¬ (60 : Int) < (j : Int) := by omega
              have HR2 := hidP hr
              clear hr h0
              go_wp2
              go_ret2
              rw [HR2.out]
              exact ⟨vo, vc, by rw [HJ2.out]; rfl, by rw [HJ2.out]; exact ho, hb⟩
end Go.Proofs.YtoflhfiegfhkoaaDoor
