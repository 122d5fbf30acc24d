/-
  The walk of the law TraceParts.
-/
import Derived.Test.YtdelflahmlfnfaaDoorTAwake
import Derived.Test.YtdelflahmlfnfaaDoorTOpen
import Derived.Test.YtdelflahmlfnfaaDoorOwn
import Derived.IntWalk
namespace Go.Proofs.YtdelflahmlfnfaaDoor
open Go.RowKit
set_option linter.unusedVariables false

/-- append in an operation that stands behind a guard that is met. -/
theorem wpList_appG {P : Program} (w : World) {ops : Array Oper} {rest : List Oper} {o : Oper} {a : Act} {Q : Exit → Act → World → Prop} (hgd : Region.wanted o (yielded ops a.tmps) = true) (s x : Operand) {t e : TypeId} {z : Value} {size bytes : Nat}
    (ho : o.op = .call { callee := .builtin .append, args := #[s, x], argTypes := #[t, t] }) (hT : SlT P t e z size bytes)
    (base : Nat) (v : Value) (n : Nat) (xs : List Value) (hs : a.eval s = v) (hown : w.ownsRow base e size v n xs)
    (A : Option Addr) (m c : Nat) (news : List Value) (hx : a.eval x = .slice A m c) (N : Nat) (hN : N = n + m) (hr : RowAt w A news) (hl : news.length = m * size) (h1 : ∀ u ∈ news, u.oneCell' = true)
    (hbytes : N * bytes ≤ 140737488355328) (h63 : N ≤ maxLen) (hbase : base ≤ w.heap.size)
    (h : ∀ ao' cap' w', w'.ownsRow base e size (.slice ao' N cap') N (xs ++ news) → w.grownBy w' v.ownBlock → ((Value.slice ao' N cap').ownBlock = v.ownBlock ∨ (Value.slice ao' N cap').ownBlock = some w.heap.size) → wpList P ops Q rest (a.put o.dst (.slice ao' N cap')) w') : wpList P ops Q (o :: rest) a w :=
  wpList_step fun K hK => by
    rw [if_pos hgd]
    exact wp_app w s x ho hT base v n xs hs hown A m c news hx N hN hr hl h1 hbytes h63 hbase fun ao' cap' w' h2 h3 h4 => hK _ _ (h ao' cap' w' h2 h3 h4)

theorem vis_vis (l : List Ev) : vis (vis l) = vis l := vis_all fun y hy => by
  have := (List.mem_filter.1 hy).2
  simpa using this
theorem recl_vis (l : List Ev) : recl (vis l) = [] := by
  unfold recl
  rw [List.map_eq_nil_iff, List.filter_eq_nil_iff]
  intro x hx h3
  have := (List.mem_filter.1 hx).2
  simp [isHid, h3] at this
theorem textB_append (A B : List Ev) : (⟨(textL (A ++ B)).toArray⟩ : ByteArray) = ⟨(textL A).toArray⟩ ++ ⟨(textL B).toArray⟩ := by
  rw [textL_append]
  apply ByteArray.ext
  simp

set_option maxRecDepth 100000 in
set_option maxHeartbeats 3200000 in
theorem traceParts_any (ao bo : Option Addr) (n c m d : Nat) (A B : List Ev) (w : World) (hra : RowAt w ao (evsCells A)) (hn : A.length = n) (hoa : ∀ x ∈ A, evOk x) (hnx : n ≤ 9223372036854775807) (hrb : RowAt w bo (evsCells B)) (hm : B.length = m) (hob : ∀ x ∈ B, evOk x) (hmx : m ≤ 9223372036854775807) (ht : Pow w) :
    Calls Tryd.prog 3 #[.slice ao n c, .slice bo m d] w fun e w' => e = .returned (.bool true) ∧ Below w.heap.size w w' := by
  have haw := awake26_any w ht
  by_cases h1 : 100 < n
  · clear hn hm hoa hob hra hrb
    go_enter Tryd.func3, Tryd.ntmps3
    go_wp2_with fail
    refine haw.mono ?_
    rintro e w1 ⟨rfl, hb1⟩
    go_wp2
    go_ret
    exact ⟨rfl, hb1⟩
  · by_cases h2 : 100 < m
    · clear hn hm hoa hob hra hrb
      go_enter Tryd.func3, Tryd.ntmps3
      go_wp2_with fail
      refine haw.mono ?_
      rintro e w1 ⟨rfl, hb1⟩
      go_wp2
      go_ret
      exact ⟨rfl, hb1⟩
    · have hAB : (A ++ B).length = n + m := by rw [List.length_append, hn, hm]
      have hoAB : ∀ x ∈ A ++ B, evOk x := fun x hx => (List.mem_append.1 hx).elim (hoa x) (hob x)
      obtain ⟨SA, hSA⟩ : ∃ s : ByteArray, s = ⟨(textL A).toArray⟩ := ⟨_, rfl⟩
      obtain ⟨SB, hSB⟩ : ∃ s : ByteArray, s = ⟨(textL B).toArray⟩ := ⟨_, rfl⟩
      have hsa : SA.size ≤ 6100 := by
        have := textL_le A hoa
        have e : SA.size = (textL A).length := by rw [hSA]; rfl
        rw [e]
        omega
      have hsb : SB.size ≤ 6100 := by
        have := textL_le B hob
        have e : SB.size = (textL B).length := by rw [hSB]; rfl
        rw [e]
        omega
      have hta := fun w hr ht => text_any ao n c A w hr hn (by omega) hoa ht
      have htb := fun w hr ht => text_any bo m d B w hr hm (by omega) hob ht
      have htab := fun ro c w hr ht => text_any ro (n + m) c (A ++ B) w hr hAB (by omega) hoAB ht
      rw [textB_append] at htab
      rw [← hSA] at hta htab
      rw [← hSB] at htb htab
      have HTA := hidP hta
      have HTB := hidP htb
      have HTAB := hidP htab
      have Hn := hidP hn
      have Hm := hidP hm
      have HAB := hidP hAB
      have HT := hidP ht
      obtain ⟨p, hp⟩ : ∃ p, (recl A).length = p := ⟨_, rfl⟩
      obtain ⟨q, hq⟩ : ∃ q, (recl B).length = q := ⟨_, rfl⟩
      have hpq : (recl (A ++ B)).length = p + q := by rw [recl_append, List.length_append, hp, hq]
      have hpl : p ≤ 100 := by have := recl_le A; omega
      have hql : q ≤ 100 := by have := recl_le B; omega
      have HPQ := hidP hpq
      have HP := hidP hp
      have HQ := hidP hq
      have HVA := hidP (vis_append A B)
      have hvl : (vis A).length ≤ n := by have := vis_le A; omega
      have hvm : (vis B).length ≤ m := by have := vis_le B; omega
      clear hta htb htab hn hm hAB hoa hob hoAB hSA hSB haw ht hpq hp hq
      go_enter Tryd.func3, Tryd.ntmps3
      go_upto_region 4 with (first
        | (at_builtin; go_loud (refine (wpList_app _ rfl (.const (.slice none 0 0)) (.tmp 16) rfl Tryd.slEv w.heap.size (.slice none 0 0) 0 [] rfl (World.ownsRow_nil _ _ _ _) ao n c (evsCells A) rfl n (by omega) hra (by rw [length_evsCells, Hn.out]) (evs_one _) (by omega) (by unfold maxLen; omega) (Nat.le_refl _) ?_)); intro a1 c1 w1 ho1 hg1 _; have hb1 : Below w.heap.size w w1 := below_grown hg1 (Nat.le_refl _) (by simp [Value.ownBlock]); clear hg1)
        | (at_builtin; go_loud (refine (wpList_app _ rfl (.tmp 17) (.tmp 18) rfl Tryd.slEv w.heap.size (.slice a1 n c1) n ([] ++ evsCells A) rfl ho1 bo m d (evsCells B) rfl (n + m) (by omega) (hrb.below hb1) (by rw [length_evsCells, Hm.out]) (evs_one _) (by omega) (by unfold maxLen; omega) hb1.size ?_)); intro a2 c2 w2 ho2 hg2 _; have hb2 : Below w.heap.size w w2 := hb1.grown hg2 hb1.size (fun k hk => (ho1.lt k hk).1); clear hg2))
      rw [List.nil_append, ← evsCells_append] at ho2
      have hs2 := hb2.size
      have ra2 := owns_row ho2
      go_wp2_with fail
      refine (visible_any a2 (n + m) c2 (A ++ B) w2 ra2 HAB.out (by omega)).mono ?_
      rintro e w3 ⟨a3, c3, rfl, ho3, hb3⟩
      have hB3 := bstep hb2 hb3
      have hall3 := owns_below ho2 hb3
      go_wp2_with fail
      refine (awake26_any w3 (pow_below HT.out hB3)).mono ?_
      rintro e w4 ⟨rfl, hb4⟩
      have hB4 := bstep hB3 hb4
      have hall4 := owns_below hall3 hb4
      have hv4 := owns_below ho3 hb4
      go_wp2_with fail
      refine (HTAB.out a2 c2 w4 (owns_row hall4) (pow_below HT.out hB4)).mono ?_
      rintro e w5 ⟨rfl, hb5⟩
      have hB5 := bstep hB4 hb5
      have hall5 := owns_below hall4 hb5
      have hv5 := owns_below hv4 hb5
      go_wp2_with fail
      refine (HTA.out w5 (hra.below hB5) (pow_below HT.out hB5)).mono ?_
      rintro e w6 ⟨rfl, hb6⟩
      have hB6 := bstep hB5 hb6
      have hall6 := owns_below hall5 hb6
      have hv6 := owns_below hv5 hb6
      go_wp2_with fail
      refine (HTB.out w6 (hrb.below hB6) (pow_below HT.out hB6)).mono ?_
      rintro e w7 ⟨rfl, hb7⟩
      have hB7 := bstep hB6 hb7
      have hall7 := owns_below hall6 hb7
      have hv7 := owns_below hv6 hb7
      clear hall3 hall4 hall5 hall6 hv4 hv5 hv6 ho2 ho3 ho1
      go_wp2_with fail
      refine (visible_any ao n c A w7 (hra.below hB7) Hn.out (by omega)).mono ?_
      rintro e w8 ⟨a8, c8, rfl, ho8, hb8⟩
      have hB8 := bstep hB7 hb8
      have hall8 := owns_below hall7 hb8
      have hv8 := owns_below hv7 hb8
      go_wp2_with fail
      refine (visible_any bo m d B w8 (hrb.below hB8) Hm.out (by omega)).mono ?_
      rintro e w9 ⟨a9, c9, rfl, ho9, hb9⟩
      have hB9 := bstep hB8 hb9
      have hall9 := owns_below hall8 hb9
      have hv9 := owns_below hv8 hb9
      have ho89 := owns_below ho8 hb9
      have hs8 := hb8.size
      have hs9 := hb9.size
      have hs3 := hb3.size
      go_wp2_with (at_builtin; go_loud (refine (wpList_appG _ rfl (.tmp 36) (.tmp 38) rfl Tryd.slEv w7.heap.size (.slice a8 (vis A).length c8) (vis A).length (evsCells (vis A)) rfl ho89 a9 (vis B).length c9 (evsCells (vis B)) rfl ((vis A).length + (vis B).length) rfl (owns_row ho9) (length_evsCells _) (evs_one _) (by omega) (by unfold maxLen; omega) (by omega) ?_)); intro a10 c10 w10 ho10 hg10 _)
      have hk10 : Keep (fun k => (Value.slice a8 (vis A).length c8).ownBlock = some k) w9 w10 := .of_grown hg10 (fun _ h => h)
      have hB10 : Below w.heap.size w w10 := hB9.grown hg10 hB9.size (fun k hk => by have := (ho89.lt k hk).1; have := hB7.size; omega)
      have hall10 := owns_keep hall9 hk10 (fun b e1 e2 => by have h3 := (ho8.lt b e2).1; have h4 := (hall7.lt b e1).2; omega)
      have hv10 := owns_keep hv9 hk10 (fun b e1 e2 => by have h3 := (ho8.lt b e2).1; have h4 := (hv7.lt b e1).2; omega)
      rw [← evsCells_append, ← HVA.out] at ho10
      have hvl10 : (vis (A ++ B)).length = (vis A).length + (vis B).length := by rw [HVA.out, List.length_append]
      have hvl11 : (vis (A ++ B)).length ≤ 200 := by omega
      have HVL := hidP hvl10
      clear hvl10
      go_wp2_with fail
      refine (plainEv_yes a3 a10 (vis (A ++ B)).length ((vis A).length + (vis B).length) c3 c10 (vis (A ++ B)) (vis (A ++ B)) w10 (owns_row hv10) (owns_row ho10) rfl HVL.out (by omega) rfl).mono ?_
      rintro e w11 ⟨rfl, hb11⟩
      have hB11 := bstep hB10 hb11
      have hall11 := owns_below hall10 hb11
      have hv11 := owns_below hv10 hb11
      go_wp2_with fail
      refine (visible_any a3 _ c3 (vis (A ++ B)) w11 (owns_row hv11) rfl (by omega)).mono ?_
      rw [vis_vis]
      rintro e w12 ⟨a12, c12, rfl, ho12, hb12⟩
      have hB12 := bstep hB11 hb12
      have hall12 := owns_below hall11 hb12
      have hv12 := owns_below hv11 hb12
      go_wp2_with fail
      refine (plainEv_yes a12 a3 _ _ c12 c3 (vis (A ++ B)) (vis (A ++ B)) w12 (owns_row ho12) (owns_row hv12) rfl rfl (by omega) rfl).mono ?_
      rintro e w13 ⟨rfl, hb13⟩
      have hB13 := bstep hB12 hb13
      have hall13 := owns_below hall12 hb13
      have hv13 := owns_below hv12 hb13
      go_wp2_with fail
      refine (recl_any a3 _ c3 (vis (A ++ B)) w13 (owns_row hv13) rfl (by omega)).mono ?_
      rw [recl_vis]
      rintro e w14 ⟨a14, c14, rfl, ho14, hb14⟩
      have hB14 := bstep hB13 hb14
      have hall14 := owns_below hall13 hb14
      go_wp2_with fail
      refine (recl_any a2 (n + m) c2 (A ++ B) w14 (owns_row hall14) HAB.out (by omega)).mono ?_
      rw [HPQ.out]
      rintro e w15 ⟨a15, c15, rfl, ho15, hb15⟩
      have hB15 := bstep hB14 hb15
      go_wp2_with fail
      refine (recl_any ao n c A w15 (hra.below hB15) Hn.out (by omega)).mono ?_
      rw [HP.out]
      rintro e w16 ⟨a16, c16, rfl, ho16, hb16⟩
      have hB16 := bstep hB15 hb16
      go_wp2_with fail
      refine (recl_any bo m d B w16 (hrb.below hB16) Hm.out (by omega)).mono ?_
      rw [HQ.out]
      rintro e w17 ⟨a17, c17, rfl, ho17, hb17⟩
      go_wp2
      go_ret
      exact ⟨rfl, bstep hB16 hb17⟩

theorem tracePartsW (w : World) (ao : Option Addr) (n c : Nat) (A : List Ev) (hra : RowAt w ao (evsCells A)) (hn : A.length = n) (ha : (∀ x ∈ A, evOk x) ∧ n ≤ c ∧ c ≤ maxLen) (bo : Option Addr) (m d : Nat) (B : List Ev) (hrb : RowAt w bo (evsCells B)) (hm : B.length = m) (hb : (∀ x ∈ B, evOk x) ∧ m ≤ d ∧ d ≤ maxLen) (ht : Pow w) :
    Calls Tryd.prog 3 #[.slice ao n c, .slice bo m d] w fun e w' => e = .returned (.bool true) ∧ Below w.heap.size w w' :=
  traceParts_any ao bo n c m d A B w hra hn ha.1 (by have h1 := ha.2.1; have h2 := ha.2.2; unfold maxLen at h2; omega) hrb hm hb.1 (by have h1 := hb.2.1; have h2 := hb.2.2; unfold maxLen at h2; omega) ht
end Go.Proofs.YtdelflahmlfnfaaDoor
