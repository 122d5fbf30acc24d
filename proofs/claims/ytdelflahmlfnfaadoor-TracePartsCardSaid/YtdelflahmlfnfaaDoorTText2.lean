/-
  The walk over trace.Text.
-/
import Derived.Test.YtdelflahmlfnfaaDoorTText
import Derived.Test.YtdelflahmlfnfaaDoorTRecl
namespace Go.Proofs.YtdelflahmlfnfaaDoor
open Go.RowKit
set_option linter.unusedVariables false

def lineL (x : Ev) : List UInt8 := match lineS x with
  | some s => (s ++ ⟨#[10]⟩ : ByteArray).data.toList
  | none => []
def textL (l : List Ev) : List UInt8 := l.flatMap lineL
theorem textL_append (a b : List Ev) : textL (a ++ b) = textL a ++ textL b := by simp [textL]
theorem textL_step {l : List Ev} {j : Nat} {x : Ev} (hx : l[j]? = some x) : textL (l.take (j + 1)) = textL (l.take j) ++ lineL x := by
  rw [List.take_add_one, hx, textL_append]
  simp [textL]
theorem lineS_le {x : Ev} (h : evOk x) {s : ByteArray} (hs : lineS x = some s) : s.size ≤ 60 := by
  have h1 := numB_le x.gor h.1
  have h2 := numB_le x.val h.2
  have h3 : (valB x).size ≤ 21 := by
    unfold valB
    split
    · show 1 ≤ 21
      omega
    · exact h2
  have e1 : (⟨#[111, 117, 116, 32]⟩ : ByteArray).size = 4 := rfl
  have e2 : (⟨#[101, 120, 105, 116, 32]⟩ : ByteArray).size = 5 := rfl
  have e3 : (⟨#[114, 101, 99, 108, 97, 105, 109, 32]⟩ : ByteArray).size = 8 := rfl
  have e4 : (⟨#[102, 105, 110, 97, 108, 32]⟩ : ByteArray).size = 6 := rfl
  have e5 : (⟨#[101, 110, 100, 32]⟩ : ByteArray).size = 4 := rfl
  have e6 : (⟨#[32]⟩ : ByteArray).size = 1 := rfl
  unfold lineS at hs
  repeat' split at hs
  all_goals first | (cases hs; done) | (cases hs; simp only [ByteArray.size_append, e1, e2, e3, e4, e5, e6]; omega)
theorem lineL_le {x : Ev} (h : evOk x) : (lineL x).length ≤ 61 := by
  unfold lineL
  cases hs : lineS x with
  | none => simp
  | some s =>
    have := lineS_le h hs
    have e : (s ++ ⟨#[10]⟩ : ByteArray).data.toList.length = (s ++ ⟨#[10]⟩ : ByteArray).size := Array.length_toList
    dsimp only
    rw [e, ByteArray.size_append]
    show s.size + 1 ≤ 61
    omega
theorem textL_le (l : List Ev) (h : ∀ x ∈ l, evOk x) : (textL l).length ≤ l.length * 61 := by
  induction l with
  | nil => simp [textL]
  | cons a l ih =>
    have h1 := lineL_le (h a (by simp))
    have h2 := ih (fun x hx => h x (by simp [hx]))
    have e : textL (a :: l) = lineL a ++ textL l := by simp [textL]
    rw [e, List.length_append, List.length_cons]
    omega

theorem bld_below {B b : Nat} {bs : List Value} {w w' : World} (h : Lib.IsBuilder 58 5 B b bs w) (hb : Below w.heap.size w w') : Lib.IsBuilder 58 5 B b bs w' := by
  have key : ∀ p, Lib.BuilderAt 58 5 B b p bs w → Lib.BuilderAt 58 5 B b p bs w' := by
    rintro p ⟨hB, v, h1, h2, h3⟩
    exact ⟨hB, v, (hb.block b (Array.getElem?_eq_some_iff.1 h1).1).trans h1, owns_below h2 hb, h3⟩
  exact h.elim (fun x => .inl (key _ x)) (fun x => .inr (key _ x))

theorem assert_line (w : World) (v : Value) : (Instr.typeAssert (.iface 59 v) 20 59 true).run Tryd.prog w = .ok (.tuple #[v, .bool true]) w := by
  simp [Instr.typeAssert, run_underlying Tryd.underlying59]
theorem assert_noline (w : World) : (Instr.typeAssert .nilIface 20 59 true).run Tryd.prog w = .ok (.tuple #[.string ⟨#[]⟩, .bool false]) w := by
  first | kernel_rfl | rfl

set_option maxRecDepth 100000 in
set_option maxHeartbeats 1600000 in
theorem text_any (ao : Option Addr) (n c : Nat) (l : List Ev) (w : World) (hr : RowAt w ao (evsCells l)) (hn : l.length = n) (hmax : n ≤ 1000000) (hok : ∀ x ∈ l, evOk x) (ht : Pow w) :
    Calls Tryd.prog 11 #[.slice ao n c] w fun e w' => e = .returned (.string ⟨(textL l).toArray⟩) ∧ Below w.heap.size w w' := by
  have Hn := hidP hn
  have HO := hidP hok
  have HT := hidP ht
  clear hn hok ht
  have ha1 := assert_line
  have ha0 := assert_noline
  go_enter Tryd.func11, Tryd.ntmps11
  go_wp2_with fail
  have hB0 : Lib.IsBuilder 58 5 w.heap.size w.heap.size [] (w.alloc (.cells #[.pointer none, .slice none 0 0] 58)) :=
    .inl ⟨Nat.le_refl _, .slice none 0 0, heap_alloc_new w _, World.ownsRow_nil _ _ _ _, by simp [Value.ownBlock]⟩
  have hb0 := bnew (brefl w) (.cells #[.pointer none, .slice none 0 0] 58)
  have HT0 := hidP (pow_below HT.out hb0)
  go_loopw [10] (fun v wr => ∃ k : Nat, v = .int .i64 k ∧ k ≤ n ∧ Hid (Lib.IsBuilder 58 5 w.heap.size w.heap.size (Lib.byteCells (textL (l.take k))) wr) ∧ Hid (Pow wr) ∧ Below w.heap.size w wr) (fun v _ => n - (intOf v).toNat)
  case atStart => exact ⟨0, rfl, by omega, hB0, HT0, hb0⟩
  case round =>
    clear hB0 HT0 hb0
    obtain ⟨k, rfl, hk, HB, HP, hb⟩ := hrel
    have hsr := hb.size
    by_cases hlt : k < n
    · obtain ⟨b, o, rfl, hca⟩ := (hr.below hb).addr (by rw [length_evsCells, Hn.out]; omega)
      obtain ⟨x, hx⟩ : ∃ x, l[k]? = some x := ⟨_, List.getElem?_eq_getElem (by rw [Hn.out]; omega)⟩
      obtain ⟨x0, x1, x2, x3⟩ := evs_at hca k x hx
      have hxo := HO.out x (List.mem_of_getElem? hx)
      have hb1 := bnew (brefl wr) (.cells #[.int .i64 x.kind, .int .i64 x.gor, .int .i64 x.val, .bool x.ref] 28)
      have hof := of_any x hxo _ (pow_below HP.out hb1)
      have HST := hidP (textL_step hx)
      have HTL : Hid ((textL (l.take k)).length ≤ k * 61) := by
        have := textL_le (l.take k) (fun y hy => HO.out y (List.mem_of_mem_take hy))
        rw [List.length_take] at this
        show _ ≤ _
        have hm : min k l.length ≤ k := Nat.min_le_left _ _
        have := Nat.mul_le_mul_right 61 hm
        omega
      unfold evV ofV at hof
      cases hs : lineS x with
      | none =>
        rw [hs] at hof
        dsimp only at hof
        have hl : lineL x = [] := by simp [lineL, hs]
        rw [hl, List.append_nil] at HST
        clear hs hl hca hx hxo
        go_wp2_with fail
        refine hof.mono ?_
        rintro e w2 ⟨rfl, hb2⟩
        have hB2 := bstep hb1 hb2
        go_wp2
        go_roundw
        case rel => exact ⟨k + 1, by go_num, by omega, by show Lib.IsBuilder _ _ _ _ _ _; rw [HST.out]; exact bld_below HB.out hB2, pow_below HP.out hB2, bstep hb hB2⟩
        case measure => simp [intOf]; omega
      | some s =>
        rw [hs] at hof
        dsimp only at hof
        have hsl := lineS_le hxo hs
        have hl : lineL x = (s ++ ⟨#[10]⟩ : ByteArray).data.toList := by simp [lineL, hs]
        rw [hl] at HST
        clear hs hl hca hx hxo
        go_wp2_with fail
        refine hof.mono ?_
        rintro e w2 ⟨rfl, hb2⟩
        have hB2 := bstep hb1 hb2
        have hbl := bld_below HB.out hB2
        have hwr := bldWrite_any w.heap.size w.heap.size _ (s ++ ⟨#[10]⟩) w2 hbl (by
          have e : (Lib.byteCells (textL (l.take k))).length = (textL (l.take k)).length := by simp [Lib.byteCells]
          rw [e, ByteArray.size_append]
          have := HTL.out
          show _ + (s.size + 1) ≤ _
          omega) (by have := hB2.size; omega)
        have HW := hidP hwr
        have HBL := hidP hbl
        clear hof hwr hbl
        go_wp2_with fail
        refine HW.out.mono ?_
        rintro e w3 ⟨rfl, h3, hb3⟩
        have hB3 : Below w.heap.size w w3 := (bstep hb hB2).trans hb3
        go_wp2
        go_roundw
        case rel => exact ⟨k + 1, by go_num, by omega, by show Lib.IsBuilder _ _ _ _ _ _; rw [HST.out, Lib.byteCells_append]; exact .inr h3, pow_below HT.out hB3, hB3⟩
        case measure => simp [intOf]; omega
    · have hl : l.take k = l := List.take_of_length_le (by rw [Hn.out]; omega)
      rw [hl] at HB
      clear hl
      go_wp2_with fail
      refine (Tryd.Builder_String_any w.heap.size w.heap.size (textL l) wr HB.out hsr).mono ?_
      rintro e w4 ⟨rfl, hb4⟩
      go_wp2
      go_ret
      exact ⟨rfl, hb.trans hb4⟩
end Go.Proofs.YtdelflahmlfnfaaDoor
