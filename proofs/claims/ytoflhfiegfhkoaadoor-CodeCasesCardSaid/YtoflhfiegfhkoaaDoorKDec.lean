/-
  A text's lines are of signs; the walk over package code's Decode.
-/
import Derived.Test.YtoflhfiegfhkoaaDoorKLine
import Derived.Test.YtoflhfiegfhkoaaDoorXAcc
namespace Go.Proofs.YtoflhfiegfhkoaaDoor
open Go.RowKit Go.Proofs.YtoflhfiegfhkoaaDoorW.PrintWords
set_option linter.unusedVariables false

theorem may_all_ascii (s : ByteArray) : ∀ k pos, pos + k = s.size → (runesF s pos).all (fun c => mayR c) = true → ∀ b ∈ s.data.toList.drop pos, b.toNat < 128
  | 0, pos, hk, _, b, hb => by
    rw [List.drop_eq_nil_of_le (by rw [Array.length_toList]; show s.size ≤ pos; omega)] at hb
    simp at hb
  | k + 1, pos, hk, hm, b, hb => by
    have hp : pos < s.size := by omega
    have hl : pos < s.data.toList.length := by rw [Array.length_toList]; exact hp
    have hbb : (s[pos]'hp) = s.data.toList[pos]'hl := by simp; rfl
    rw [runesF_step s pos hp, List.all_cons] at hm
    simp only [Bool.and_eq_true] at hm
    have h0 : (s[pos]'hp).toNat < 128 := by
      rcases Nat.lt_or_ge (s[pos]'hp).toNat 128 with h | h
      · exact h
      · have h2 := (decode_high s pos hp h).1
        have h3 := hm.1
        unfold mayR at h3
        simp at h3
        omega
    have hde : Utf8.decode s pos = ((s[pos]'hp).toNat, 1) := by rw [decode_ascii s pos hp h0]
    rw [hde] at hm
    rw [List.drop_eq_getElem_cons hl] at hb
    rcases List.mem_cons.1 hb with rfl | hb
    · rw [← hbb]; exact h0
    · exact may_all_ascii s k (pos + 1) (by omega) hm.2 b hb
theorem mayAll_ascii {s : ByteArray} (h : mayAll s = true) : ascii s.data.toList := fun b hb => may_all_ascii s s.size 0 (by omega) h b (by simpa using hb)

/-- A line's signs. -/
def LineOK (L : List Nat) : Prop := 0 < L.length ∧ L.length ≤ 2000 ∧ ∀ c ∈ L, 33 ≤ c ∧ c ≤ 126
theorem LineOK.asc {L : List Nat} (h : LineOK L) : ∀ x ∈ L, x < 128 := fun x hx => by have := h.2.2 x hx; omega
def bytesN (x : ByteArray) : List Nat := x.data.toList.map (·.toNat)
theorem strA_bytesN (x : ByteArray) : strA (bytesN x) = x := by
  apply ByteArray.ext
  unfold strA bytesN
  rw [List.map_map]
  have : (UInt8.ofNat ∘ fun b : UInt8 => b.toNat) = id := by funext b; simp
  rw [this]
  simp
theorem acc_ok : ∀ (l cur : List UInt8), mayL l = true → (∀ b ∈ cur, 33 ≤ b.toNat ∧ b.toNat ≤ 126) → ∀ x ∈ accB l cur, x ≠ [] ∧ x.length ≤ l.length + cur.length ∧ ∀ b ∈ x, 33 ≤ b.toNat ∧ b.toNat ≤ 126
  | [], cur, _, hc, x, hx => by
    unfold accB at hx
    split at hx
    · simp at hx
    · rename_i h
      rw [List.mem_singleton] at hx
      subst hx
      exact ⟨by simpa using h, by simp, hc⟩
  | c :: r, cur, hm, hc, x, hx => by
    have hm' : mayR (c.toNat : Int) = true ∧ mayL r = true := by
      unfold mayL at hm ⊢
      rw [List.all_cons] at hm
      simpa using hm
    unfold accB at hx
    split at hx
    · split at hx
      · have := acc_ok r [] hm'.2 (by simp) x hx
        exact ⟨this.1, by have := this.2.1; simp at this ⊢; omega, this.2.2⟩
      · rename_i h
        rcases List.mem_cons.1 hx with rfl | hx
        · exact ⟨by simpa using h, by simp, hc⟩
        · have := acc_ok r [] hm'.2 (by simp) x hx
          exact ⟨this.1, by have := this.2.1; simp at this ⊢; omega, this.2.2⟩
    · split at hx
      · have := acc_ok r cur hm'.2 hc x hx
        exact ⟨this.1, by have := this.2.1; simp at this ⊢; omega, this.2.2⟩
      · rename_i h10 h32
        have := acc_ok r (cur ++ [c]) hm'.2 (fun b hb => by
          rcases List.mem_append.1 hb with hb | hb
          · exact hc b hb
          · rw [List.mem_singleton] at hb
            subst hb
            have h := hm'.1
            unfold mayR at h
            simp at h
            have e1 : b.toNat ≠ 10 := fun e => h10 (UInt8.toNat_inj.1 e)
            have e2 : b.toNat ≠ 32 := fun e => h32 (UInt8.toNat_inj.1 e)
            omega) x hx
        exact ⟨this.1, by have := this.2.1; simp at this ⊢; omega, this.2.2⟩
/-- Whatever the text: its lines are of signs, and few. -/
theorem lines_ok (s : ByteArray) : (∀ x ∈ (linesR s).1, LineOK (bytesN x)) ∧ (linesR s).1.length ≤ 60 := by
  by_cases h1 : 2000 < (runesF s 0).length
  · have : linesR s = ([], 3) := by unfold linesR; rw [if_pos h1]
    rw [this]; simp
  · by_cases h2 : mayAll s = false
    · have : linesR s = ([], 4) := by unfold linesR; rw [if_neg h1, if_pos h2]
      rw [this]; simp
    · have h2' : mayAll s = true := by simpa using h2
      have ha := mayAll_ascii h2'
      have hl := runes_len_ascii s ha
      have hm : mayL s.data.toList = true := by rw [← may_ascii s ha]; exact h2'
      by_cases h3 : (keepB (piecesB s)).length = 0
      · have : linesR s = ([], 7) := by unfold linesR; rw [if_neg h1, if_neg h2, if_pos h3]
        rw [this]; simp
      · by_cases h4 : 60 < (keepB (piecesB s)).length
        · have : linesR s = ([], 3) := by unfold linesR; rw [if_neg h1, if_neg h2, if_neg h3, if_pos h4]
          rw [this]; simp
        · have : linesR s = (keepB (piecesB s), 0) := by unfold linesR; rw [if_neg h1, if_neg h2, if_neg h3, if_neg h4]
          rw [this]
          refine ⟨fun x hx => ?_, by show (keepB (piecesB s)).length ≤ 60; omega⟩
          have hx2 : x.data.toList ∈ accB s.data.toList [] := by rw [← lines_acc]; exact List.mem_map.2 ⟨x, hx, rfl⟩
          obtain ⟨k1, k2, k3⟩ := acc_ok _ _ hm (by simp) _ hx2
          refine ⟨by unfold bytesN; rw [List.length_map]; exact List.length_pos_iff.2 k1, ?_, fun c hc => ?_⟩
          · unfold bytesN
            rw [List.length_map]
            have : s.data.toList.length = s.size := by rw [Array.length_toList]; rfl
            rw [List.length_nil, Nat.add_zero] at k2
            omega
          · unfold bytesN at hc
            obtain ⟨b, hb, rfl⟩ := List.mem_map.1 hc
            exact k3 b hb

def decF : Nat → List InstrD → List (List Nat) → List InstrD × Int × Int
  | _, acc, [] => (acc, 0, 0)
  | i, acc, x :: r => if (lineR x).2 = true then decF (i + 1) (acc ++ [(lineR x).1]) r else ([], (i : Int) + 1, 5)
/-- A text's instructions, or which is none, and why. -/
def decodeR (s : ByteArray) : List InstrD × Int × Int := if (linesR s).2 ≠ 0 then ([], 0, (linesR s).2) else decF 0 [] ((linesR s).1.map bytesN)
theorem decF_yes {i : Nat} {acc : List InstrD} {l : List (List Nat)} {k : Nat} {x : List Nat} (h : l[k]? = some x) (e : (lineR x).2 = true) : decF i acc (l.drop k) = decF (i + 1) (acc ++ [(lineR x).1]) (l.drop (k + 1)) := by
  obtain ⟨hk, hx⟩ := List.getElem?_eq_some_iff.1 h
  rw [List.drop_eq_getElem_cons hk, hx]
  simp only [decF]
  rw [if_pos e]
theorem decF_no {i : Nat} {acc : List InstrD} {l : List (List Nat)} {k : Nat} {x : List Nat} (h : l[k]? = some x) (e : (lineR x).2 = false) : decF i acc (l.drop k) = ([], (i : Int) + 1, 5) := by
  obtain ⟨hk, hx⟩ := List.getElem?_eq_some_iff.1 h
  rw [List.drop_eq_getElem_cons hk, hx]
  simp only [decF]
  rw [if_neg (by rw [e]; simp)]
/-- What Decode leaves. -/
def DecPost (w : World) (D : List InstrD × Int × Int) (e : Ending) (w' : World) : Prop :=
  ∃ A c, e = .returned (.tuple #[.slice A D.1.length c, .int .i64 D.2.1, .int .i64 D.2.2]) ∧ kI.R 37 w' w.heap.size (fun k => w.heap.size ≤ k) (.slice A D.1.length c) D.1 ∧ Below w.heap.size w w'

set_option maxRecDepth 100000 in
set_option maxHeartbeats 3200000 in
theorem decode_any (s : ByteArray) (w : World) (hs : s.size ≤ 1000000) (he : Env w) : Calls Tryd.prog 24 #[.string s] w (DecPost w (decodeR s)) := by
  obtain ⟨mx, hmx⟩ := he.mx
  have hl := lines_any s mx w hmx hs
  obtain ⟨hok, h60⟩ := lines_ok s
  obtain ⟨D, hD⟩ : ∃ D, decodeR s = D := ⟨_, rfl⟩
  rw [hD]
  have hd := hD.symm
  unfold decodeR at hd
  obtain ⟨⟨W, E⟩, hW⟩ : ∃ W, linesR s = W := ⟨_, rfl⟩
  rw [hW] at hl hok h60 hd
  dsimp only at hl hok h60 hd
  have HD := hidP hd
  have HOK := hidP hok
  have HENV := hidP he
  obtain ⟨N, hN⟩ : ∃ N, W.length = N := ⟨_, rfl⟩
  rw [hN] at h60
  have HN := hidP hN
  unfold LinesPost at hl
  rw [hN] at hl
  have HL := hidP hl
  clear hd hD hW hok he hN hmx hl
  go_enter Tryd.func24, Tryd.ntmps24
  go_wp2_with fail
  refine HL.out.mono ?_
  rintro e w1 ⟨a1, c1, rfl, ho1, hb1⟩
  have hrow := owns_row ho1
  have hz1 := hb1.size
  have HENV1 := hidP (HENV.out.below hb1)
  clear ho1
  by_cases hE : E = 0
  · have hd := HD.out
    rw [if_neg (by simp [hE])] at hd
    have HD2 := hidP hd
    have t0 : (E != 0) = false := by simp [hE]
    clear hd hE
    go_wp2_with fail
    go_loopw [7, 22] (fun v7 v22 wr => ∃ (k : Nat) (acc : List InstrD) (A : Option Addr) (c : Nat), v7 = .slice A k c ∧ v22 = .int .i64 k ∧ k ≤ N ∧ Hid (acc.length = k) ∧ Hid (decF k acc ((W.map bytesN).drop k) = D) ∧ Hid (kI.R 37 wr w1.heap.size (fun k => w1.heap.size ≤ k) (.slice A k c) acc) ∧ Below w1.heap.size w1 wr) (fun _ v22 _ => N - (intOf v22).toNat)
    case atStart => exact ⟨0, [], none, 0, rfl, rfl, by omega, rfl, HD2.out.symm, Kd.R_nil _ _ _ _ _, brefl _⟩
    case round =>
      obtain ⟨k, acc, A, c, rfl, rfl, hk, HAC, HF, HR, hb⟩ := hrel
      obtain ⟨w2, e2⟩ : ∃ w2, w2 = wr := ⟨_, rfl⟩
      subst e2
      by_cases hlt : k < N
      · obtain ⟨x, hx⟩ : ∃ x, W[k]? = some x := ⟨_, List.getElem?_eq_getElem (by rw [HN.out]; exact hlt)⟩
        have cx : ∃ b o, a1 = some ⟨b, o, none⟩ ∧ w2.cell? ⟨b, o + k, none⟩ = some (.string x) := by
          obtain ⟨b, o, e, hc⟩ := (hrow.below hb).addr (by rw [List.length_map, HN.out]; omega)
          exact ⟨b, o, e, hc k _ (by rw [List.getElem?_map, hx]; rfl)⟩
        obtain ⟨b, o, rfl, cx⟩ := cx
        have hxo := HOK.out x (List.mem_of_getElem? hx)
        have hxs := strA_bytesN x
        obtain ⟨L, hL⟩ : ∃ L, bytesN x = L := ⟨_, rfl⟩
        rw [hL] at hxo hxs
        have hml : (W.map bytesN)[k]? = some L := by rw [List.getElem?_map, hx, ← hL]; rfl
        rw [← hxs] at cx
        have hln := line_any L w2 hxo.asc (by have := hxo.2.1; omega) (HENV1.out.bl.below hb)
        have hz2 := hb.size
        have HLN := hidP hln
        have HML := hidP hml
        obtain ⟨⟨⟨xo, xa, xb, xn, xc⟩, xok⟩, hX⟩ : ∃ X, lineR L = X := ⟨_, rfl⟩
        have hstep : D = if xok = true then decF (k + 1) (acc ++ [⟨xo, xa, xb, xn, xc⟩]) ((W.map bytesN).drop (k + 1)) else ([], (k : Int) + 1, 5) := by
          cases xok
          · rw [if_neg (by simp), ← HF.out]; exact decF_no hml (by rw [hX])
          · rw [if_pos rfl, ← HF.out, decF_yes hml (by rw [hX]), hX]
        have HST := hidP hstep
        unfold LinePost at hln
        rw [hX] at hln
        simp only [instrV] at hln
        have HLN := hidP hln
        clear hln hml hx hxs hL hxo hX hstep
        go_wp2_with fail
        refine HLN.out.mono ?_
        rintro e w3 ⟨v, rfl, hv, hb3⟩
        obtain ⟨vA, vc, rfl⟩ := Kd.R_slice hv
        have hB3 := bstep hb hb3
        have HV := hidP hv
        have HR3 := hidP (Kd.R_below HR.out hb3)
        have hz3 := hb3.size
        clear hv
        cases xok
        · have hd : D = ([], (k : Int) + 1, 5) := by rw [HST.out, if_neg (by simp)]
          have HDD := hidP hd
          clear hd
          go_wp2_with fail
          go_ret3
          rw [HDD.out]
          exact ⟨none, 0, rfl, Kd.R_nil _ _ _ _ _, (hb1.trans (hB3.mono hz1)).alloc (by omega) _⟩
        · have hd : D = decF (k + 1) (acc ++ [⟨xo, xa, xb, xn, xc⟩]) ((W.map bytesN).drop (k + 1)) := by rw [HST.out, if_pos rfl]
          have HDD := hidP hd.symm
          have hcl : (acc.length + 1) * 56 ≤ 140737488355328 := by rw [HAC.out]; omega
          clear hd
          go_upto_region 11 with fail
          have hb4 := bnew (brefl w3) (.cells #[.int .i64 xo, .int .i64 xa, .int .i64 xb, .int .i64 xn, .slice vA xc.length vc] 37)
          have hn4 := blk_new w3 (.cells #[.int .i64 xo, .int .i64 xa, .int .i64 xb, .int .i64 xn, .slice vA xc.length vc] 37)
          generalize w3.alloc (.cells #[.int .i64 xo, .int .i64 xa, .int .i64 xb, .int .i64 xn, .slice vA xc.length vc] 37) = w4 at *
          have y0 : w4.cell? ⟨w3.heap.size, 0, none⟩ = some _ := (blk_cell hn4 0).trans rfl
          have y1 : w4.cell? ⟨w3.heap.size, 1, none⟩ = some _ := (blk_cell hn4 1).trans rfl
          have y2 : w4.cell? ⟨w3.heap.size, 2, none⟩ = some _ := (blk_cell hn4 2).trans rfl
          have y3 : w4.cell? ⟨w3.heap.size, 3, none⟩ = some _ := (blk_cell hn4 3).trans rfl
          have y4 : w4.cell? ⟨w3.heap.size, 4, none⟩ = some _ := (blk_cell hn4 4).trans rfl
          have hB4 := bstep hB3 hb4
          have hz4 := hB4.size
          have hR4 := Kd.R_below HR3.out hb4
          have hV4 := Kd.R_lower (Kd.R_below HV.out hb4) hz2
          have hM : kI.M w4 w1.heap.size (fun k => w2.heap.size ≤ k) ⟨xo, xa, xb, xn, xc⟩ (instrC ⟨xo, xa, xb, xn, xc⟩ (.slice vA xc.length vc)) := kI_mkM _ hV4
          have hokp : ∀ j, w2.heap.size ≤ j → w1.heap.size ≤ j ∧ some j ≠ (Value.slice A k c).ownBlock := fun j hj => ⟨by omega, fun e => by
            obtain ⟨inner, ho⟩ := Kd.R_own HR.out
            have := own_lt ho j e.symm
            omega⟩
          have HB4 := hidP hB4
          have HR4 := hidP hR4
          have HM := hidP hM
          have HOKP := hidP hokp
          clear hb4 hn4 hB4 hR4 hV4 hM hokp
          go_wp2_with (at_builtin; go_loud (refine (Kd.R_append kI w1.heap.size rfl (.tmp 36) (.tmp 38) 22 37 _ 56 rfl Tryd.underlying22 Tryd.infoI rfl (by decide) (by decide) (.slice A k c) acc ⟨xo, xa, xb, xn, xc⟩ (instrC ⟨xo, xa, xb, xn, xc⟩ (.slice vA xc.length vc)) (fun k => w1.heap.size ≤ k) (fun k => w2.heap.size ≤ k) rfl rfl HM.out HOKP.out (fun j hj => Nat.le_trans hz4 hj) HR4.out HB4.out hz4 hcl ?_)); intro v1 w7 hR7 hB7 hg7 hat7)
          obtain ⟨A7, c7, rfl⟩ := Kd.R_slice hR7
          have hlen : (acc ++ [(⟨xo, xa, xb, xn, xc⟩ : InstrD)]).length = k + 1 := by rw [List.length_append, HAC.out]; rfl
          rw [hlen] at hR7 ⊢
          exact ⟨⟨k + 1, _, A7, c7, rfl, by go_num, by omega, hlen, HDD, hR7, hB7⟩, by simp [intOf]; omega⟩
      · have hd : D = (acc, 0, 0) := by
          rw [← HF.out, List.drop_eq_nil_of_le (by rw [List.length_map, HN.out]; omega)]
          rfl
        have HDD := hidP hd
        clear hd
        go_wp2
        go_ret3
        rw [HDD.out]
        exact ⟨A, c, by show _ = Ending.returned (.tuple #[.slice A acc.length c, _, _]); rw [HAC.out]; rfl, by show kI.R _ _ _ _ (.slice A acc.length c) _; rw [HAC.out]; exact Kd.R_mono (Kd.R_lower HR.out hz1) (fun j hj => by omega), hb1.trans (hb.mono hz1)⟩
  · have hd : D = ([], 0, E) := by rw [HD.out, if_pos hE]
    have HDD := hidP hd
    have t0 : (E != 0) = true := by simpa using hE
    clear hd hE
    go_wp2
    go_ret3
    rw [HDD.out]
    exact ⟨none, 0, rfl, Kd.R_nil _ _ _ _ _, hb1⟩
end Go.Proofs.YtoflhfiegfhkoaaDoor
