/-
  Parts of the proof: KDec, XRef, KRefB.
-/
import Derived.Test.YtklfboidjnchoaaGreatDoorZ2
namespace Go.Proofs.YtklfboidjnchoaaGreatDoor
open Go.RowKit Go.Proofs.YtklfboidjnchoaaGreatDoorW.PrintWords
set_option linter.unusedVariables false
set_option linter.unusedSimpArgs false
theorem may_all_ascii (s : ByteArray) : ∀ k pos, pos + k = s.size → (runesF s pos).all (fun c => mayR c) = true → ∀ b ∈ s.data.toList.drop pos, b.toNat < 128
  | 0, pos, hk, _, b, hb => by
    rw [List.drop_eq_nil_of_le (by rw [Array.length_toList]; show s.size ≤ pos; omega)] at hb
    simp at hb
  | k + 1, pos, hk, hm, b, hb => by
    have hp : pos < s.size := by omega
    have hl : pos < s.data.toList.length := by rw [Array.length_toList]; exact hp
    have hbb : (s[pos]'hp) = s.data.toList[pos]'hl := by simp; rfl
    rw [runesF_step s pos hp, List.all_cons] at hm
    simp only [Bool.and_eq_true] at hm
    have h0 : (s[pos]'hp).toNat < 128 := by
      rcases Nat.lt_or_ge (s[pos]'hp).toNat 128 with h | h
      · exact h
      · have h2 := (decode_high s pos hp h).1
        have h3 := hm.1
        unfold mayR at h3
        simp at h3
        omega
    have hde : Utf8.decode s pos = ((s[pos]'hp).toNat, 1) := by rw [decode_ascii s pos hp h0]
    rw [hde] at hm
    rw [List.drop_eq_getElem_cons hl] at hb
    rcases List.mem_cons.1 hb with rfl | hb
    · rw [← hbb]; exact h0
    · exact may_all_ascii s k (pos + 1) (by omega) hm.2 b hb
theorem mayAll_ascii {s : ByteArray} (h : mayAll s = true) : ascii s.data.toList := fun b hb => may_all_ascii s s.size 0 (by omega) h b (by simpa using hb)
def LineOK (L : List Nat) : Prop := 0 < L.length ∧ L.length ≤ 2000 ∧ ∀ c ∈ L, 33 ≤ c ∧ c ≤ 126
theorem LineOK.asc {L : List Nat} (h : LineOK L) : ∀ x ∈ L, x < 128 := fun x hx => by have := h.2.2 x hx; omega
def bytesN (x : ByteArray) : List Nat := x.data.toList.map (·.toNat)
theorem strA_bytesN (x : ByteArray) : strA (bytesN x) = x := by
  apply ByteArray.ext
  unfold strA bytesN
  rw [List.map_map]
  have : (UInt8.ofNat ∘ fun b : UInt8 => b.toNat) = id := by funext b; simp
  rw [this]
  simp
theorem acc_ok : ∀ (l cur : List UInt8), mayL l = true → (∀ b ∈ cur, 33 ≤ b.toNat ∧ b.toNat ≤ 126) → ∀ x ∈ accB l cur, x ≠ [] ∧ x.length ≤ l.length + cur.length ∧ ∀ b ∈ x, 33 ≤ b.toNat ∧ b.toNat ≤ 126
  | [], cur, _, hc, x, hx => by
    unfold accB at hx
    split at hx
    · simp at hx
    · rename_i h
      rw [List.mem_singleton] at hx
      subst hx
      exact ⟨by simpa using h, by simp, hc⟩
  | c :: r, cur, hm, hc, x, hx => by
    have hm' : mayR (c.toNat : Int) = true ∧ mayL r = true := by
      unfold mayL at hm ⊢
      rw [List.all_cons] at hm
      simpa using hm
    unfold accB at hx
    split at hx
    · split at hx
      · have := acc_ok r [] hm'.2 (by simp) x hx
        exact ⟨this.1, by have := this.2.1; simp at this ⊢; omega, this.2.2⟩
      · rename_i h
        rcases List.mem_cons.1 hx with rfl | hx
        · exact ⟨by simpa using h, by simp, hc⟩
        · have := acc_ok r [] hm'.2 (by simp) x hx
          exact ⟨this.1, by have := this.2.1; simp at this ⊢; omega, this.2.2⟩
    · split at hx
      · have := acc_ok r cur hm'.2 hc x hx
        exact ⟨this.1, by have := this.2.1; simp at this ⊢; omega, this.2.2⟩
      · rename_i h10 h32
        have := acc_ok r (cur ++ [c]) hm'.2 (fun b hb => by
          rcases List.mem_append.1 hb with hb | hb
          · exact hc b hb
          · rw [List.mem_singleton] at hb
            subst hb
            have h := hm'.1
            unfold mayR at h
            simp at h
            have e1 : b.toNat ≠ 10 := fun e => h10 (UInt8.toNat_inj.1 e)
            have e2 : b.toNat ≠ 32 := fun e => h32 (UInt8.toNat_inj.1 e)
            omega) x hx
        exact ⟨this.1, by have := this.2.1; simp at this ⊢; omega, this.2.2⟩
theorem lines_ok (s : ByteArray) : (∀ x ∈ (linesR s).1, LineOK (bytesN x)) ∧ (linesR s).1.length ≤ 60 := by
  by_cases h1 : 2000 < (runesF s 0).length
  · have : linesR s = ([], 3) := by unfold linesR; rw [if_pos h1]
    rw [this]; simp
  · by_cases h2 : mayAll s = false
    · have : linesR s = ([], 4) := by unfold linesR; rw [if_neg h1, if_pos h2]
      rw [this]; simp
    · have h2' : mayAll s = true := by simpa using h2
      have ha := mayAll_ascii h2'
      have hl := runes_len_ascii s ha
      have hm : mayL s.data.toList = true := by rw [← may_ascii s ha]; exact h2'
      by_cases h3 : (keepB (piecesB s)).length = 0
      · have : linesR s = ([], 7) := by unfold linesR; rw [if_neg h1, if_neg h2, if_pos h3]
        rw [this]; simp
      · by_cases h4 : 60 < (keepB (piecesB s)).length
        · have : linesR s = ([], 3) := by unfold linesR; rw [if_neg h1, if_neg h2, if_neg h3, if_pos h4]
          rw [this]; simp
        · have : linesR s = (keepB (piecesB s), 0) := by unfold linesR; rw [if_neg h1, if_neg h2, if_neg h3, if_neg h4]
          rw [this]
          refine ⟨fun x hx => ?_, by show (keepB (piecesB s)).length ≤ 60; omega⟩
          have hx2 : x.data.toList ∈ accB s.data.toList [] := by rw [← lines_acc]; exact List.mem_map.2 ⟨x, hx, rfl⟩
          obtain ⟨k1, k2, k3⟩ := acc_ok _ _ hm (by simp) _ hx2
          refine ⟨by unfold bytesN; rw [List.length_map]; exact List.length_pos_iff.2 k1, ?_, fun c hc => ?_⟩
          · unfold bytesN
            rw [List.length_map]
            have : s.data.toList.length = s.size := by rw [Array.length_toList]; rfl
            rw [List.length_nil, Nat.add_zero] at k2
            omega
          · unfold bytesN at hc
            obtain ⟨b, hb, rfl⟩ := List.mem_map.1 hc
            exact k3 b hb
def decF : Nat → List InstrD → List (List Nat) → List InstrD × Int × Int
  | _, acc, [] => (acc, 0, 0)
  | i, acc, x :: r => if (lineR x).2 = true then decF (i + 1) (acc ++ [(lineR x).1]) r else ([], (i : Int) + 1, 5)
def decodeR (s : ByteArray) : List InstrD × Int × Int := if (linesR s).2 ≠ 0 then ([], 0, (linesR s).2) else decF 0 [] ((linesR s).1.map bytesN)
theorem decF_yes {i : Nat} {acc : List InstrD} {l : List (List Nat)} {k : Nat} {x : List Nat} (h : l[k]? = some x) (e : (lineR x).2 = true) : decF i acc (l.drop k) = decF (i + 1) (acc ++ [(lineR x).1]) (l.drop (k + 1)) := by
  obtain ⟨hk, hx⟩ := List.getElem?_eq_some_iff.1 h
  rw [List.drop_eq_getElem_cons hk, hx]
  simp only [decF]
  rw [if_pos e]
theorem decF_no {i : Nat} {acc : List InstrD} {l : List (List Nat)} {k : Nat} {x : List Nat} (h : l[k]? = some x) (e : (lineR x).2 = false) : decF i acc (l.drop k) = ([], (i : Int) + 1, 5) := by
  obtain ⟨hk, hx⟩ := List.getElem?_eq_some_iff.1 h
  rw [List.drop_eq_getElem_cons hk, hx]
  simp only [decF]
  rw [if_neg (by rw [e]; simp)]
def DecPost (w : World) (D : List InstrD × Int × Int) (e : Ending) (w' : World) : Prop :=
  ∃ A c, e = .returned (.tuple #[.slice A D.1.length c, .int .i64 D.2.1, .int .i64 D.2.2]) ∧ kI.R 56 w' w.heap.size (fun k => w.heap.size ≤ k) (.slice A D.1.length c) D.1 ∧ Below w.heap.size w w'
end Go.Proofs.YtklfboidjnchoaaGreatDoor
namespace Go.Proofs.YtklfboidjnchoaaGreatDoor
open Go.RowKit
set_option linter.unusedVariables false
set_option linter.unusedSimpArgs false
theorem Tryz.idx_str (s : ByteArray) (k : Nat) (h : k < s.size) (w : World) :
    (Instr.index 9 (.string s) (.int .i64 k)).run Tryz.prog w = .ok (.int .u8 ((s[k]'h).toNat : Int)) w := by
  rw [run_index_string w 9 s .i64 k (by kernel_rfl), dif_pos ⟨by omega, by omega⟩]
  rfl
set_option maxRecDepth 100000 in
set_option maxHeartbeats 800000 in
theorem refNumber_any (s : ByteArray) (w : World) (hmax : s.size ≤ 140737488355328) :
    Calls Tryz.prog 108 #[.string s] w fun e w' => e = .returned (.tuple #[.int .i64 (numR s).1, .bool (numR s).2]) ∧ Below w.heap.size w w' := by
  go_enter Tryz.func108, Tryz.ntmps108
  go_wp2_with fail
  go_loopw [4, 5] (fun v4 v5 wr => ∃ (k : Nat) (v : Nat), v4 = .int .i64 v ∧ v5 = .int .i64 k ∧ k ≤ s.size ∧ k ≤ 4 ∧ Hid (v < 10 ^ k) ∧ Hid ((runesF s 0).foldl dstep 0 = (runesF s k).foldl dstep v) ∧ Hid ((runesF s 0).all isDig = (runesF s k).all isDig) ∧ Below w.heap.size w wr) (fun _ v5 _ => s.size - (intOf v5).toNat)
  case atStart => exact ⟨0, 0, rfl, rfl, by omega, by omega, by show 0 < 10 ^ 0; decide, rfl, rfl, Below.refl _ _⟩
  case round =>
    obtain ⟨k, v, rfl, rfl, hks, hk4, HP, HV, HA, hb⟩ := hrel
    by_cases hlt : k < s.size
    · have hix := fun w => Tryz.idx_str s k hlt w
      obtain ⟨b, hbb⟩ : ∃ b, (s[k]'hlt).toNat = b := ⟨_, rfl⟩
      have hb256 : b < 256 := by rw [← hbb]; exact UInt8.toNat_lt _
      have hst := runesF_step s k hlt
      have h1 := HV.out
      have h2 := HA.out
      rw [hst, List.foldl_cons] at h1
      rw [hst, List.all_cons] at h2
      have hde : b < 128 → Utf8.decode s k = (b, 1) := fun h => by rw [decode_ascii s k hlt (by rw [hbb]; exact h), hbb]
      have hdh : 128 ≤ b → isDig (Utf8.decode s k).1 = false := fun h => by
        have := (decode_high s k hlt (by rw [hbb]; exact h)).1
        simp [isDig]; omega
      rw [hbb] at hix
      by_cases hk3 : 3 < k
      · have hn : numR s = (0, false) := by
          have : ¬ s.size ≤ 4 := by omega
          simp [numR, this]
        have HN := hidP hn
        have gk : (3 : Int) < (k : Int) := by omega
        clear hst h1 h2 hde hdh hn hbb
        by_cases g1 : (b : Int) < 48
        · go_wp2
          go_ret2
          exact ⟨by rw [HN.out]; rfl, hb⟩
        · by_cases g2 : (57 : Int) < (b : Int)
          · go_wp2
            go_ret2
            exact ⟨by rw [HN.out]; rfl, hb⟩
          · go_wp2
            go_ret2
            exact ⟨by rw [HN.out]; rfl, hb⟩
      · have gk : ¬ (3 : Int) < (k : Int) := by omega
        by_cases hd : isDig b = true
        · have hd' := hd
          simp [isDig] at hd'
          obtain ⟨hd1, hd2⟩ := hd'
          rw [hde (by omega)] at h1 h2
          dsimp only at h1 h2
          rw [hd, Bool.true_and] at h2
          have hv : v < 1000 := Nat.lt_of_lt_of_le HP.out (by have := Nat.pow_le_pow_right (n := 10) (by omega) (show k ≤ 3 by omega); omega)
          have hds : dstep (v : Int) b = ((10 * v + (b - 48) : Nat) : Int) := by unfold dstep; rw [if_pos (by omega)]; omega
          rw [hds] at h1
          have H1 := hidP h1
          have H2 := hidP h2
          have H3 : Hid (10 * v + (b - 48) < 10 ^ (k + 1)) := by
            have := HP.out
            show _ < _
            rw [Nat.pow_succ]; omega
          have g1 : ¬ ((b : Int) < 48) := by omega
          have g2 : ¬ ((57 : Int) < (b : Int)) := by omega
          have g3 : IntKind.u8.wrap ((b : Int) - 48) = ((b - 48 : Nat) : Int) := by rw [show (b : Int) - 48 = ((b - 48 : Nat) : Int) by omega]; exact IntWalk.u8_in _ (by omega)
          clear hst hde hdh h1 h2 hds hd hbb
          go_wp2
          go_roundw
          case rel => exact ⟨k + 1, 10 * v + (b - 48), by go_num, by go_num, by omega, by omega, H3, H1, H2, hb⟩
          case measure => simp [intOf]; omega
        · have hd0 : isDig b = false := by simpa using hd
          have hr : isDig (Utf8.decode s k).1 = false := by
            by_cases h : b < 128
            · rw [hde h]; exact hd0
            · exact hdh (by omega)
          rw [hr, Bool.false_and] at h2
          have hn : numR s = (0, false) := by simp [numR, h2]
          have HN := hidP hn
          have hcc : (b : Int) < 48 ∨ ¬ ((b : Int) < 48) ∧ (57 : Int) < (b : Int) := by
            simp [isDig] at hd0
            omega
          clear hst h1 h2 hde hdh hn hbb hd hd0 hr
          rcases hcc with g1 | ⟨g1, g2⟩
          · go_wp2
            go_ret2
            exact ⟨by rw [HN.out]; rfl, hb⟩
          · go_wp2
            go_ret2
            exact ⟨by rw [HN.out]; rfl, hb⟩
    · have hk : k = s.size := by omega
      have hst := runesF_end s k hlt
      have h1 := HV.out
      have h2 := HA.out
      rw [hst] at h1 h2
      simp at h1 h2
      have hv : dval (runesF s 0) = v := h1
      have hall : (runesF s 0).all isDig = true := by rw [List.all_eq_true]; simpa using h2
      by_cases h0 : s.size = 0
      · have hn : numR s = (0, false) := by simp [numR, h0]
        have hv0 : v = 0 := by
          have := HP.out
          rw [hk, h0] at this
          simpa using this
        have g : ¬ (0 : Int) < (s.size : Int) := by omega
        have HN := hidP hn
        clear hn hall hv h1 h2 hst
        subst hv0
        go_wp2
        go_ret2
        exact ⟨by rw [HN.out]; rfl, hb⟩
      · have hn : numR s = ((v : Int), true) := by
          unfold numR
          rw [if_pos, hv]
          rw [hall]
          simp
          omega
        have g : (0 : Int) < (s.size : Int) := by omega
        have HN := hidP hn
        have HD : Hid (decide (0 < s.size) = true) := decide_eq_true (by omega)
        clear hn hall hv h1 h2 hst
        go_wp2
        go_ret2
        exact ⟨by rw [HN.out]; show Ending.returned (.tuple #[.int .i64 (v : Int), .bool (decide (0 < s.size))]) = _; rw [HD.out], hb⟩
end Go.Proofs.YtklfboidjnchoaaGreatDoor
namespace Go.Proofs.YtklfboidjnchoaaGreatDoor
open Go.RowKit Go.Proofs.YtklfboidjnchoaaGreatDoorW.PrintWords
set_option linter.unusedVariables false
def restN (L : List Nat) : Nat := (L.takeWhile isDig).length
theorem restN_le (L : List Nat) : restN L ≤ L.length := by
  unfold restN
  have h := List.takeWhile_prefix (l := L) isDig
  exact h.length_le
theorem restN_step {L : List Nat} {k : Nat} (h : k < L.length) (hd : isDig (chr L k) = true) : restN (L.drop k) = restN (L.drop (k + 1)) + 1 := by
  rw [List.drop_eq_getElem_cons h]
  have : chr L k = L[k] := by unfold chr; rw [List.getD_eq_getElem?_getD, List.getElem?_eq_getElem h]; rfl
  rw [this] at hd
  unfold restN
  rw [List.takeWhile_cons, if_pos hd]
  simp
theorem restN_stop {L : List Nat} {k : Nat} (h : k < L.length) (hd : isDig (chr L k) = false) : restN (L.drop k) = 0 := by
  rw [List.drop_eq_getElem_cons h]
  have : chr L k = L[k] := by unfold chr; rw [List.getD_eq_getElem?_getD, List.getElem?_eq_getElem h]; rfl
  rw [this] at hd
  unfold restN
  rw [List.takeWhile_cons, if_neg (by rw [hd]; simp)]
  rfl
theorem Tryz.idx_strA (L : List Nat) (k : Nat) (h : k < L.length) (ha : ∀ x ∈ L, x < 128) (w : World) :
    (Instr.index 9 (.string (strA L)) (.int .i64 k)).run Tryz.prog w = .ok (.int .u8 (chr L k : Int)) w := by
  have hs : k < (strA L).size := by rw [strA_size]; exact h
  rw [Tryz.idx_str (strA L) k hs w, strA_get L k hs ha]
set_option maxRecDepth 100000 in
set_option maxHeartbeats 800000 in
theorem rest_any (L : List Nat) (w : World) (ha : ∀ x ∈ L, x < 128) (hL : L.length ≤ 1000000) :
    Calls Tryz.prog 107 #[.string (strA L)] w fun e w' => e = .returned (.int .i64 (restN L)) ∧ w' = w := by
  have hsz := strA_size L
  have HA := hidP ha
  obtain ⟨E, hE⟩ : ∃ E, restN L = E := ⟨_, rfl⟩
  rw [hE]
  have HE := hidP hE
  obtain ⟨N, hN⟩ : ∃ N, L.length = N := ⟨_, rfl⟩
  rw [hN] at hsz hL
  have HN := hidP hN
  clear ha hE hN
  go_enter Tryz.func107, Tryz.ntmps107
  go_wp2
  go_loop [3] (fun v3 => ∃ k : Nat, v3 = .int .i64 k ∧ k ≤ N ∧ Hid (k + restN (L.drop k) = E)) (fun v3 => N - (intOf v3).toNat)
  case atStart => exact ⟨0, rfl, by omega, by show 0 + _ = _; rw [List.drop_zero, HE.out]; omega⟩
  case round =>
    obtain ⟨k, rfl, hk, HK⟩ := hrel
    by_cases hlt : k < N
    · have hix := fun w => Tryz.idx_strA L k (by rw [HN.out]; exact hlt) HA.out w
      by_cases hd : isDig (chr L k) = true
      · have HK2 : Hid (k + 1 + restN (L.drop (k + 1)) = E) := by
          have := HK.out
          rw [restN_step (by rw [HN.out]; exact hlt) hd] at this
          show _ = _
          omega
        simp [isDig] at hd
        obtain ⟨d1, d2⟩ := hd
        obtain ⟨C, hC⟩ : ∃ C, chr L k = C := ⟨_, rfl⟩
        rw [hC] at hix d1 d2
        have t1 : (k : Int) < (N : Int) := by omega
        have t3 : (48 : Int) ≤ (C : Int) := by omega
        have t4 : (C : Int) ≤ 57 := by omega
        clear hC
        go_wp2
        go_round
        case rel => exact ⟨k + 1, by go_num, by omega, HK2⟩
        case measure => simp [intOf]; omega
      · have hd0 : isDig (chr L k) = false := by simpa using hd
        have hE : E = k := by
          have := HK.out
          rw [restN_stop (by rw [HN.out]; exact hlt) hd0] at this
          omega
        have HEE := hidP hE
        simp [isDig] at hd0
        obtain ⟨C, hC⟩ : ∃ C, chr L k = C := ⟨_, rfl⟩
        rw [hC] at hix hd0
        have t1 : (k : Int) < (N : Int) := by omega
        have hcc : ¬ (48 : Int) ≤ (C : Int) ∨ (48 : Int) ≤ (C : Int) ∧ ¬ (C : Int) ≤ 57 := by
          by_cases h : 48 ≤ C
          · exact .inr ⟨by omega, by have := hd0 h; omega⟩
          · exact .inl (by omega)
        clear hC hd hd0 hE
        rcases hcc with t3 | ⟨t3, t4⟩
        · go_wp2
          go_ret
          exact ⟨by rw [HEE.out]; rfl, rfl⟩
        · go_wp2
          go_ret
          exact ⟨by rw [HEE.out]; rfl, rfl⟩
    · have hE : E = k := by
        have := HK.out
        rw [List.drop_eq_nil_of_le (by rw [HN.out]; omega)] at this
        simp [restN] at this
        omega
      have HEE := hidP hE
      have t1 : ¬ (k : Int) < (N : Int) := by omega
      clear hE
      go_wp2
      go_ret
      exact ⟨by rw [HEE.out]; rfl, rfl⟩
set_option maxRecDepth 100000 in
set_option maxHeartbeats 400000 in
theorem refReg_any (c : Int) (h0 : 0 ≤ c) (h1 : c ≤ 255) (w : World) :
    Calls Tryz.prog 106 #[.int .i64 c] w fun e w' => e = .returned (.tuple #[.int .i64 (regR c).1, .bool (regR c).2]) ∧ w' = w := by
  by_cases h : 97 ≤ c ∧ c ≤ 102
  · have hr : regR c = (c - 97, true) := by unfold regR; rw [if_pos h]
    obtain ⟨h2, h3⟩ := h
    have t1 : ¬ c < 97 := by omega
    have t2 : ¬ (103 : Int) ≤ c := by omega
    rw [hr]
    clear hr
    go_enter Tryz.func106, Tryz.ntmps106
    go_wp2
    go_ret2
    exact ⟨rfl, rfl⟩
  · have hr : regR c = (0, false) := by unfold regR; rw [if_neg h]
    rw [hr]
    have hc : c < 97 ∨ ¬ c < 97 ∧ (103 : Int) ≤ c := by omega
    clear hr h
    rcases hc with t1 | ⟨t1, t2⟩
    · go_enter Tryz.func106, Tryz.ntmps106
      go_wp2
      go_ret2
      exact ⟨rfl, rfl⟩
    · go_enter Tryz.func106, Tryz.ntmps106
      go_wp2
      go_ret2
      exact ⟨rfl, rfl⟩
structure RForm where
  op : Nat
  letter : Nat
  args : List Nat
def rforms : List RForm := [⟨1, 61, [97, 78]⟩, ⟨2, 60, [97, 98]⟩, ⟨3, 43, [97, 98]⟩, ⟨4, 109, [97, 78]⟩, ⟨5, 115, [97, 98]⟩, ⟨6, 114, [97, 98]⟩, ⟨7, 99, [97]⟩, ⟨8, 108, [97, 98]⟩, ⟨9, 107, [97, 98]⟩, ⟨10, 103, [78]⟩, ⟨11, 106, [78]⟩, ⟨12, 122, [97, 78]⟩, ⟨13, 111, [97]⟩, ⟨14, 116, [97, 78]⟩, ⟨15, 98, [97, 98]⟩, ⟨16, 117, [97, 98]⟩, ⟨17, 119, [97, 98]⟩, ⟨18, 112, [110, 97]⟩, ⟨19, 113, [97, 78]⟩, ⟨20, 102, [97, 78]⟩, ⟨22, 120, []⟩]
def rformC (f : RForm) : List Value := [.int .i64 f.op, .int .u8 f.letter, .string (strA f.args)]
set_option maxRecDepth 100000 in
set_option maxHeartbeats 1600000 in
theorem forms_any (w : World) : Calls Tryz.prog 72 #[] w fun e w' => ∃ b, e = .returned (.slice (some ⟨b, 0, none⟩) 21 21) ∧ RowAt w' (some ⟨b, 0, none⟩) (rforms.flatMap rformC) ∧ Below w.heap.size w w' := by
  go_enter Tryz.func72, Tryz.ntmps72
  go_wp2
  go_ret
  exact ⟨_, rfl, RowAt.new w (rforms.flatMap rformC) _, bnew (brefl w) _⟩
theorem rform_at {w : World} {b : Nat} (h : RowAt w (some ⟨b, 0, none⟩) (rforms.flatMap rformC)) (i : Nat) (f : RForm) (hf : rforms[i]? = some f) :
    w.cell? ⟨b, i * 3, none⟩ = some (.int .i64 f.op) ∧ w.cell? ⟨b, i * 3 + 1, none⟩ = some (.int .u8 f.letter) ∧ w.cell? ⟨b, i * 3 + 2, none⟩ = some (.string (strA f.args)) := by
  have hg : ∀ (l : List RForm) (i : Nat) (f : RForm), l[i]? = some f → (l.flatMap rformC)[i * 3]? = some (.int .i64 f.op) ∧ (l.flatMap rformC)[i * 3 + 1]? = some (.int .u8 f.letter) ∧ (l.flatMap rformC)[i * 3 + 2]? = some (.string (strA f.args)) := by
    intro l
    induction l with
    | nil => intro i f h; simp at h
    | cons a l ih =>
      intro i f h
      cases i with
      | zero => simp at h; subst h; simp [rformC]
      | succ i =>
        simp at h
        have h2 := ih i f h
        have e : ∀ j, ((a :: l).flatMap rformC)[(i + 1) * 3 + j]? = (l.flatMap rformC)[i * 3 + j]? := by
          intro j
          rw [List.flatMap_cons, List.getElem?_append_right (by simp [rformC]; omega)]
          congr 1
          simp [rformC]; omega
        refine ⟨?_, ?_, ?_⟩
        · have := e 0; simp only [Nat.add_zero] at this; rw [this]; exact h2.1
        · rw [e 1]; exact h2.2.1
        · rw [e 2]; exact h2.2.2
  obtain ⟨h0, h1, h2⟩ := hg rforms i f hf
  have a0 := h.some _ _ h0
  have a1 := h.some _ _ h1
  have a2 := h.some _ _ h2
  rw [Nat.zero_add] at a0 a1 a2
  exact ⟨a0, a1, a2⟩
end Go.Proofs.YtklfboidjnchoaaGreatDoor
namespace Go.Proofs.YtklfboidjnchoaaGreatDoor
open Go.RowKit Go.Proofs.YtklfboidjnchoaaGreatDoorW.PrintWords
set_option linter.unusedVariables false
theorem extract_strA (L : List Nat) (a b : Nat) : (strA L).extract a b = strA ((L.take b).drop a) := by
  apply ByteArray.ext
  apply Array.ext'
  rw [ByteArray.data_extract, Array.toList_extract]
  show List.extract (L.map UInt8.ofNat) a b = ((L.take b).drop a).map UInt8.ofNat
  rw [List.extract_eq_take_drop, List.map_drop, List.map_take, List.drop_take]
theorem cut_lo (L : List Nat) (n k : Nat) (h : L.length = n) : (strA L).extract k n = strA (L.drop k) := by rw [extract_strA, ← h, List.take_length]
theorem cut_hi (L : List Nat) (k : Nat) : (strA L).extract 0 k = strA (L.take k) := by rw [extract_strA, List.drop_zero]
theorem strA_empty (L : List Nat) : (strA L).toList.isEmpty = L.isEmpty := by
  rw [Lib.toList_data]
  show (L.map UInt8.ofNat).isEmpty = _
  cases L <;> rfl
def simpF : List Nat → List Nat → Int → Int → Int → Option (Int × Int × Int × List Nat)
  | [], L, a, b, n => some (a, b, n, L)
  | c :: F, L, a, b, n =>
    if c = 78 then (if (numR (strA (L.take (restN L)))).2 = true then simpF F (L.drop (restN L)) a b (numR (strA (L.take (restN L)))).1 else none)
    else if L.length = 0 then none
    else if c = 110 then (if (numR (strA (L.take 1))).2 = true then simpF F (L.drop 1) a b (numR (strA (L.take 1))).1 else none)
    else if c = 97 then (if (regR (chr L 0)).2 = true then simpF F (L.drop 1) (regR (chr L 0)).1 b n else none)
    else (if (regR (chr L 0)).2 = true then simpF F (L.drop 1) a (regR (chr L 0)).1 n else none)
def simpR (op : Int) (F L : List Nat) : InstrD × Bool :=
  match simpF F L 0 0 0 with
  | none => (instrZ, false)
  | some r => (⟨op, r.1, r.2.1, r.2.2.1, []⟩, r.2.2.2.isEmpty)
theorem simpF_at {F : List Nat} {k c : Nat} (h : F[k]? = some c) (L : List Nat) (a b n : Int) : simpF (F.drop k) L a b n = simpF (c :: F.drop (k + 1)) L a b n := by
  obtain ⟨hk, hc⟩ := List.getElem?_eq_some_iff.1 h
  rw [List.drop_eq_getElem_cons hk, hc]
set_option maxRecDepth 100000 in
set_option maxHeartbeats 6400000 in
theorem simple_any (op le : Int) (F L : List Nat) (w : World) (hFa : ∀ x ∈ F, x < 128) (hFl : F.length ≤ 10) (ha : ∀ x ∈ L, x < 128) (hL : L.length ≤ 1000000) :
    Calls Tryz.prog 85 #[.agg #[.int .i64 op, .int .u8 le, .string (strA F)], .string (strA L)] w (LinePost w (simpR op F L)) := by
  have HFA := hidP hFa
  have hfs := strA_size F
  obtain ⟨E, hE⟩ : ∃ E, simpF F L 0 0 0 = E := ⟨_, rfl⟩
  obtain ⟨X, hX⟩ : ∃ X, simpR op F L = X := ⟨_, rfl⟩
  rw [hX]
  unfold simpR at hX
  rw [hE] at hX
  have HX := hidP hX
  have HE := hidP hE
  have HA := hidP ha
  obtain ⟨NF, hNF⟩ : ∃ NF, F.length = NF := ⟨_, rfl⟩
  rw [hNF] at hfs hFl
  have HNF := hidP hNF
  clear hFa hE hX ha hNF
  go_enter Tryz.func85, Tryz.ntmps85
  go_wp2_with fail
  have h0 : ∀ o1 o2 o3, Below w.heap.size w (((w.alloc o1).alloc o2).alloc o3) ∧ (((w.alloc o1).alloc o2).alloc o3).heap[w.heap.size]? = some o1 ∧ (((w.alloc o1).alloc o2).alloc o3).heap[w.heap.size + 1]? = some o2 ∧ (((w.alloc o1).alloc o2).alloc o3).heap[w.heap.size + 2]? = some o3 := fun o1 o2 o3 => by
    refine ⟨bnew (bnew (bnew (brefl w) _) _) _, blk_alloc (blk_alloc (blk_new w _) _) _, blk_alloc (by simpa using blk_new (w.alloc o1) o2) _, ?_⟩
    have := blk_new ((w.alloc o1).alloc o2) o3
    simpa using this
  obtain ⟨hb0, hf0, hr0, hx0⟩ := h0 (.cells #[.int .i64 op, .int .u8 le, .string (strA F)] 136) (.cells #[.int .i64 0, .int .i64 0, .int .i64 0, .int .i64 0, .slice none 0 0] 56) (.cells #[.int .i64 op, .int .i64 0, .int .i64 0, .int .i64 0, .slice none 0 0] 56)
  clear h0
  go_loopw [1, 7] (fun v1 v7 wr => ∃ (k : Nat) (M : List Nat) (a b n : Int), v1 = .string (strA M) ∧ v7 = .int .i64 k ∧ k ≤ NF ∧ Hid (M.length ≤ 1000000) ∧ Hid (∀ x ∈ M, x < 128) ∧ Hid (simpF (F.drop k) M a b n = E) ∧ wr.heap[w.heap.size]? = some (.cells #[.int .i64 op, .int .u8 le, .string (strA F)] 136 (0, 0)) ∧ wr.heap[w.heap.size + 1]? = some (.cells #[.int .i64 0, .int .i64 0, .int .i64 0, .int .i64 0, .slice none 0 0] 56 (0, 0)) ∧ wr.heap[w.heap.size + 2]? = some (.cells #[.int .i64 op, .int .i64 a, .int .i64 b, .int .i64 n, .slice none 0 0] 56 (0, 0)) ∧ Below w.heap.size w wr) (fun _ v7 _ => NF - (intOf v7).toNat)
  case atStart => exact ⟨0, L, 0, 0, 0, rfl, rfl, by omega, hL, HA.out, by show simpF (F.drop 0) L 0 0 0 = E; rw [List.drop_zero]; exact HE.out, hf0, hr0, hx0, hb0⟩
  case round =>
    clear hb0 hf0 hr0 hx0
    obtain ⟨k, M, a, b, n, rfl, rfl, hk, HML, HMA, HF, hf, hr, hx, hb⟩ := hrel
    obtain ⟨w1, e1⟩ : ∃ w1, w1 = wr := ⟨_, rfl⟩
    subst e1
    have hl0 := blk_lt hf
    have hl1 := blk_lt hr
    have hl2 := blk_lt hx
    have f2 : w1.cell? ⟨w.heap.size, 2, none⟩ = some _ := (blk_cell hf 2).trans rfl
    have hms := strA_size M
    obtain ⟨m, hm⟩ : ∃ m, M.length = m := ⟨_, rfl⟩
    rw [hm] at hms
    have HM := hidP hm
    have hm6 : m ≤ 1000000 := by rw [← hm]; exact HML.out
    clear hm
    have HR1 := hidP hr
    have HF1 := hidP hf
    have HX1 := hidP hx
    clear hr hf hx
    by_cases hlt : k < NF
    · have hixF := fun w => Tryz.idx_strA F k (by rw [HNF.out]; exact hlt) HFA.out w
      obtain ⟨C, hC⟩ : ∃ C, F[k]? = some C := ⟨_, List.getElem?_eq_getElem (by rw [HNF.out]; exact hlt)⟩
      have hCc : chr F k = C := by unfold chr; rw [List.getD_eq_getElem?_getD, hC]; rfl
      have hC128 := HFA.out C (List.mem_of_getElem? hC)
      rw [hCc] at hixF
      have hst : E = simpF (C :: F.drop (k + 1)) M a b n := by rw [← simpF_at hC]; exact HF.out.symm
      simp only [simpF] at hst
      clear hC hCc
      by_cases c1 : C = 78
      · rw [if_pos c1] at hst
        have t1 : ((C : Int) == 78) = true := by simp; omega
        have hrl := restN_le M
        obtain ⟨r, hrr⟩ : ∃ r, restN M = r := ⟨_, rfl⟩
        have hre := fun w => rest_any M w HMA.out HML.out
        rw [hrr] at hst hrl hre
        have hcut := cut_hi M r
        have hlo := cut_lo M m r HM.out
        have hrm : r ≤ m := by rw [← HM.out]; exact hrl
        have hnb := fun w => refNumber_any (strA (M.take r)) w (by rw [strA_size]; have := List.length_take_le r M; omega)
        obtain ⟨⟨nv, nk⟩, hN⟩ : ∃ R, numR (strA (M.take r)) = R := ⟨_, rfl⟩
        rw [hN] at hst hnb
        have g1 : (r : Int) ≤ (m : Int) := by omega
        have HST := hidP hst
        have HRE := hidP hre
        have HNB := hidP hnb
        clear hst hre hnb hN hrr hrl c1
        have hd0 : decide ((0 : Int) < (m : Int)) = decide (0 < m) := by simp
        clear hd0
        go_wp2_with fail
        refine (HRE.out _).mono ?_
        rintro e w2 ⟨rfl, rfl⟩
        go_wp2_with fail
        refine (HNB.out _).mono ?_
        rintro e w3 ⟨rfl, hb3⟩
        have hB3 := bstep hb hb3
        have HR3 := hidP (blk_below HR1.out hb3)
        have HF3 := hidP (blk_below HF1.out hb3)
        have HX3 := hidP (blk_below HX1.out hb3)
        have hz3 := hb3.size
        have x3 : w3.cell? ⟨w.heap.size + 2, 3, none⟩ = some _ := (blk_cell HX3.out 3).trans rfl
        have xf3 := blk_frozen HX3.out 3
        go_upto_region 18 with fail
        have HX4 := hidP (blk_set HX3.out 3 (.int .i64 nv))
        have HR4 := hidP (blk_far (p := ⟨w.heap.size + 2, 3, none⟩) HR3.out (by show w.heap.size + 1 ≠ w.heap.size + 2; omega) (.int .i64 nv))
        have HF4 := hidP (blk_far (p := ⟨w.heap.size + 2, 3, none⟩) HF3.out (by show w.heap.size ≠ w.heap.size + 2; omega) (.int .i64 nv))
        have hB4 := hB3.setCell (p := ⟨w.heap.size + 2, 3, none⟩) (by show w.heap.size ≤ w.heap.size + 2; omega) (.int .i64 nv)
        generalize w3.setCell ⟨w.heap.size + 2, 3, none⟩ (.int .i64 nv) = w4 at *
        have hl4 := blk_lt HR4.out
        clear x3 xf3
        cases nk
        · have hE : E = none := by rw [HST.out]; simp
          have hXX : X = (instrZ, false) := by rw [← HX.out, hE]
          subst hXX
          clear hE
          have rf0 := blk_frozen HR4.out 0
          have rf1 := blk_frozen HR4.out 1
          have rf2 := blk_frozen HR4.out 2
          have rf3 := blk_frozen HR4.out 3
          have rf4 := blk_frozen HR4.out 4
          have rc0 : w4.cell? ⟨w.heap.size + 1, 0, none⟩ = some _ := (blk_cell HR4.out 0).trans rfl
          have rc1 : w4.cell? ⟨w.heap.size + 1, 1, none⟩ = some _ := (blk_cell HR4.out 1).trans rfl
          have rc2 : w4.cell? ⟨w.heap.size + 1, 2, none⟩ = some _ := (blk_cell HR4.out 2).trans rfl
          have rc3 : w4.cell? ⟨w.heap.size + 1, 3, none⟩ = some _ := (blk_cell HR4.out 3).trans rfl
          have rc4 : w4.cell? ⟨w.heap.size + 1, 4, none⟩ = some _ := (blk_cell HR4.out 4).trans rfl
          go_wp2
          have fb1 := (blk_set (blk_set (blk_set (blk_set (blk_set HR4.out 0 (.int .i64 0)) 1 (.int .i64 0)) 2 (.int .i64 0)) 3 (.int .i64 0)) 4 (.slice none 0 0)).trans rfl
          have fk1 := ((((hB4.setCell (p := ⟨w.heap.size + 1, 0, none⟩) (by show w.heap.size ≤ w.heap.size + 1; omega) (.int .i64 0)).setCell (p := ⟨w.heap.size + 1, 1, none⟩) (by show w.heap.size ≤ w.heap.size + 1; omega) (.int .i64 0)).setCell (p := ⟨w.heap.size + 1, 2, none⟩) (by show w.heap.size ≤ w.heap.size + 1; omega) (.int .i64 0)).setCell (p := ⟨w.heap.size + 1, 3, none⟩) (by show w.heap.size ≤ w.heap.size + 1; omega) (.int .i64 0)).setCell (p := ⟨w.heap.size + 1, 4, none⟩) (by show w.heap.size ≤ w.heap.size + 1; omega) (.slice none 0 0)
          generalize ((((w4.setCell ⟨w.heap.size + 1, 0, none⟩ (.int .i64 0)).setCell ⟨w.heap.size + 1, 1, none⟩ (.int .i64 0)).setCell ⟨w.heap.size + 1, 2, none⟩ (.int .i64 0)).setCell ⟨w.heap.size + 1, 3, none⟩ (.int .i64 0)).setCell ⟨w.heap.size + 1, 4, none⟩ (.slice none 0 0) = w9 at *
          have v0 : w9.cell? ⟨w.heap.size + 1, 0, none⟩ = some _ := (blk_cell fb1 0).trans rfl
          have v1 : w9.cell? ⟨w.heap.size + 1, 1, none⟩ = some _ := (blk_cell fb1 1).trans rfl
          have v2 : w9.cell? ⟨w.heap.size + 1, 2, none⟩ = some _ := (blk_cell fb1 2).trans rfl
          have v3 : w9.cell? ⟨w.heap.size + 1, 3, none⟩ = some _ := (blk_cell fb1 3).trans rfl
          have v4 : w9.cell? ⟨w.heap.size + 1, 4, none⟩ = some _ := (blk_cell fb1 4).trans rfl
          refine bodyPost_ret (v := .tuple #[instrV instrZ (.slice none 0 0), .bool false]) (by simp [results, instrV, instrZ, Tryz.results85, go_sem, v0, v1, v2, v3, v4]) rfl ?_
          exact ⟨_, rfl, Kd.R_nil _ _ _ _ _, fk1⟩
        · have hE := HST.out
          rw [if_pos rfl] at hE
          have HEE := hidP hE.symm
          clear hE
          go_wp2
          go_roundw
          case rel => exact ⟨k + 1, M.drop r, _, _, _, rfl, by go_num, by omega, by show (M.drop r).length ≤ 1000000; (first | rw [List.length_drop, HM.out] | rw [List.length_tail, HM.out]); omega, fun x hx => HMA.out x (by first | exact List.mem_of_mem_drop hx | exact List.mem_of_mem_tail hx), HEE.out, HF4.out, HR4.out, HX4.out, hB4⟩
          case measure => simp [intOf]; omega
      · rw [if_neg c1] at hst
        have t1 : ((C : Int) == 78) = false := by simp; omega
        by_cases hm0 : m = 0
        · have hE : E = none := by rw [hst, if_pos (by rw [HM.out]; exact hm0)]
          have hXX : X = (instrZ, false) := by rw [← HX.out, hE]
          have HXX := hidP hXX
          subst hm0
          clear hE hst c1 hXX
          by_cases c2 : C = 110
          · have t2 : ((C : Int) == 110) = true := by simp; omega
            clear c2
            obtain rfl := HXX.out
            have rf0 := blk_frozen HR1.out 0
            have rf1 := blk_frozen HR1.out 1
            have rf2 := blk_frozen HR1.out 2
            have rf3 := blk_frozen HR1.out 3
            have rf4 := blk_frozen HR1.out 4
            have rc0 : w1.cell? ⟨w.heap.size + 1, 0, none⟩ = some _ := (blk_cell HR1.out 0).trans rfl
            have rc1 : w1.cell? ⟨w.heap.size + 1, 1, none⟩ = some _ := (blk_cell HR1.out 1).trans rfl
            have rc2 : w1.cell? ⟨w.heap.size + 1, 2, none⟩ = some _ := (blk_cell HR1.out 2).trans rfl
            have rc3 : w1.cell? ⟨w.heap.size + 1, 3, none⟩ = some _ := (blk_cell HR1.out 3).trans rfl
            have rc4 : w1.cell? ⟨w.heap.size + 1, 4, none⟩ = some _ := (blk_cell HR1.out 4).trans rfl
            go_wp2
            have fb1 := (blk_set (blk_set (blk_set (blk_set (blk_set HR1.out 0 (.int .i64 0)) 1 (.int .i64 0)) 2 (.int .i64 0)) 3 (.int .i64 0)) 4 (.slice none 0 0)).trans rfl
            have fk1 := ((((hb.setCell (p := ⟨w.heap.size + 1, 0, none⟩) (by show w.heap.size ≤ w.heap.size + 1; omega) (.int .i64 0)).setCell (p := ⟨w.heap.size + 1, 1, none⟩) (by show w.heap.size ≤ w.heap.size + 1; omega) (.int .i64 0)).setCell (p := ⟨w.heap.size + 1, 2, none⟩) (by show w.heap.size ≤ w.heap.size + 1; omega) (.int .i64 0)).setCell (p := ⟨w.heap.size + 1, 3, none⟩) (by show w.heap.size ≤ w.heap.size + 1; omega) (.int .i64 0)).setCell (p := ⟨w.heap.size + 1, 4, none⟩) (by show w.heap.size ≤ w.heap.size + 1; omega) (.slice none 0 0)
            generalize ((((w1.setCell ⟨w.heap.size + 1, 0, none⟩ (.int .i64 0)).setCell ⟨w.heap.size + 1, 1, none⟩ (.int .i64 0)).setCell ⟨w.heap.size + 1, 2, none⟩ (.int .i64 0)).setCell ⟨w.heap.size + 1, 3, none⟩ (.int .i64 0)).setCell ⟨w.heap.size + 1, 4, none⟩ (.slice none 0 0) = w9 at *
            have v0 : w9.cell? ⟨w.heap.size + 1, 0, none⟩ = some _ := (blk_cell fb1 0).trans rfl
            have v1 : w9.cell? ⟨w.heap.size + 1, 1, none⟩ = some _ := (blk_cell fb1 1).trans rfl
            have v2 : w9.cell? ⟨w.heap.size + 1, 2, none⟩ = some _ := (blk_cell fb1 2).trans rfl
            have v3 : w9.cell? ⟨w.heap.size + 1, 3, none⟩ = some _ := (blk_cell fb1 3).trans rfl
            have v4 : w9.cell? ⟨w.heap.size + 1, 4, none⟩ = some _ := (blk_cell fb1 4).trans rfl
            refine bodyPost_ret (v := .tuple #[instrV instrZ (.slice none 0 0), .bool false]) (by simp [results, instrV, instrZ, Tryz.results85, go_sem, v0, v1, v2, v3, v4]) rfl ?_
            exact ⟨_, rfl, Kd.R_nil _ _ _ _ _, fk1⟩
          · have t2 : ((C : Int) == 110) = false := by simp; omega
            by_cases c3 : C = 97
            · have t3 : ((C : Int) == 97) = true := by simp; omega
              clear c2 c3
              obtain rfl := HXX.out
              have rf0 := blk_frozen HR1.out 0
              have rf1 := blk_frozen HR1.out 1
              have rf2 := blk_frozen HR1.out 2
              have rf3 := blk_frozen HR1.out 3
              have rf4 := blk_frozen HR1.out 4
              have rc0 : w1.cell? ⟨w.heap.size + 1, 0, none⟩ = some _ := (blk_cell HR1.out 0).trans rfl
              have rc1 : w1.cell? ⟨w.heap.size + 1, 1, none⟩ = some _ := (blk_cell HR1.out 1).trans rfl
              have rc2 : w1.cell? ⟨w.heap.size + 1, 2, none⟩ = some _ := (blk_cell HR1.out 2).trans rfl
              have rc3 : w1.cell? ⟨w.heap.size + 1, 3, none⟩ = some _ := (blk_cell HR1.out 3).trans rfl
              have rc4 : w1.cell? ⟨w.heap.size + 1, 4, none⟩ = some _ := (blk_cell HR1.out 4).trans rfl
              go_wp2
              have fb1 := (blk_set (blk_set (blk_set (blk_set (blk_set HR1.out 0 (.int .i64 0)) 1 (.int .i64 0)) 2 (.int .i64 0)) 3 (.int .i64 0)) 4 (.slice none 0 0)).trans rfl
              have fk1 := ((((hb.setCell (p := ⟨w.heap.size + 1, 0, none⟩) (by show w.heap.size ≤ w.heap.size + 1; omega) (.int .i64 0)).setCell (p := ⟨w.heap.size + 1, 1, none⟩) (by show w.heap.size ≤ w.heap.size + 1; omega) (.int .i64 0)).setCell (p := ⟨w.heap.size + 1, 2, none⟩) (by show w.heap.size ≤ w.heap.size + 1; omega) (.int .i64 0)).setCell (p := ⟨w.heap.size + 1, 3, none⟩) (by show w.heap.size ≤ w.heap.size + 1; omega) (.int .i64 0)).setCell (p := ⟨w.heap.size + 1, 4, none⟩) (by show w.heap.size ≤ w.heap.size + 1; omega) (.slice none 0 0)
              generalize ((((w1.setCell ⟨w.heap.size + 1, 0, none⟩ (.int .i64 0)).setCell ⟨w.heap.size + 1, 1, none⟩ (.int .i64 0)).setCell ⟨w.heap.size + 1, 2, none⟩ (.int .i64 0)).setCell ⟨w.heap.size + 1, 3, none⟩ (.int .i64 0)).setCell ⟨w.heap.size + 1, 4, none⟩ (.slice none 0 0) = w9 at *
              have v0 : w9.cell? ⟨w.heap.size + 1, 0, none⟩ = some _ := (blk_cell fb1 0).trans rfl
              have v1 : w9.cell? ⟨w.heap.size + 1, 1, none⟩ = some _ := (blk_cell fb1 1).trans rfl
              have v2 : w9.cell? ⟨w.heap.size + 1, 2, none⟩ = some _ := (blk_cell fb1 2).trans rfl
              have v3 : w9.cell? ⟨w.heap.size + 1, 3, none⟩ = some _ := (blk_cell fb1 3).trans rfl
              have v4 : w9.cell? ⟨w.heap.size + 1, 4, none⟩ = some _ := (blk_cell fb1 4).trans rfl
              refine bodyPost_ret (v := .tuple #[instrV instrZ (.slice none 0 0), .bool false]) (by simp [results, instrV, instrZ, Tryz.results85, go_sem, v0, v1, v2, v3, v4]) rfl ?_
              exact ⟨_, rfl, Kd.R_nil _ _ _ _ _, fk1⟩
            · have t3 : ((C : Int) == 97) = false := by simp; omega
              clear c2 c3
              obtain rfl := HXX.out
              have rf0 := blk_frozen HR1.out 0
              have rf1 := blk_frozen HR1.out 1
              have rf2 := blk_frozen HR1.out 2
              have rf3 := blk_frozen HR1.out 3
              have rf4 := blk_frozen HR1.out 4
              have rc0 : w1.cell? ⟨w.heap.size + 1, 0, none⟩ = some _ := (blk_cell HR1.out 0).trans rfl
              have rc1 : w1.cell? ⟨w.heap.size + 1, 1, none⟩ = some _ := (blk_cell HR1.out 1).trans rfl
              have rc2 : w1.cell? ⟨w.heap.size + 1, 2, none⟩ = some _ := (blk_cell HR1.out 2).trans rfl
              have rc3 : w1.cell? ⟨w.heap.size + 1, 3, none⟩ = some _ := (blk_cell HR1.out 3).trans rfl
              have rc4 : w1.cell? ⟨w.heap.size + 1, 4, none⟩ = some _ := (blk_cell HR1.out 4).trans rfl
              go_wp2
              have fb1 := (blk_set (blk_set (blk_set (blk_set (blk_set HR1.out 0 (.int .i64 0)) 1 (.int .i64 0)) 2 (.int .i64 0)) 3 (.int .i64 0)) 4 (.slice none 0 0)).trans rfl
              have fk1 := ((((hb.setCell (p := ⟨w.heap.size + 1, 0, none⟩) (by show w.heap.size ≤ w.heap.size + 1; omega) (.int .i64 0)).setCell (p := ⟨w.heap.size + 1, 1, none⟩) (by show w.heap.size ≤ w.heap.size + 1; omega) (.int .i64 0)).setCell (p := ⟨w.heap.size + 1, 2, none⟩) (by show w.heap.size ≤ w.heap.size + 1; omega) (.int .i64 0)).setCell (p := ⟨w.heap.size + 1, 3, none⟩) (by show w.heap.size ≤ w.heap.size + 1; omega) (.int .i64 0)).setCell (p := ⟨w.heap.size + 1, 4, none⟩) (by show w.heap.size ≤ w.heap.size + 1; omega) (.slice none 0 0)
              generalize ((((w1.setCell ⟨w.heap.size + 1, 0, none⟩ (.int .i64 0)).setCell ⟨w.heap.size + 1, 1, none⟩ (.int .i64 0)).setCell ⟨w.heap.size + 1, 2, none⟩ (.int .i64 0)).setCell ⟨w.heap.size + 1, 3, none⟩ (.int .i64 0)).setCell ⟨w.heap.size + 1, 4, none⟩ (.slice none 0 0) = w9 at *
              have v0 : w9.cell? ⟨w.heap.size + 1, 0, none⟩ = some _ := (blk_cell fb1 0).trans rfl
              have v1 : w9.cell? ⟨w.heap.size + 1, 1, none⟩ = some _ := (blk_cell fb1 1).trans rfl
              have v2 : w9.cell? ⟨w.heap.size + 1, 2, none⟩ = some _ := (blk_cell fb1 2).trans rfl
              have v3 : w9.cell? ⟨w.heap.size + 1, 3, none⟩ = some _ := (blk_cell fb1 3).trans rfl
              have v4 : w9.cell? ⟨w.heap.size + 1, 4, none⟩ = some _ := (blk_cell fb1 4).trans rfl
              refine bodyPost_ret (v := .tuple #[instrV instrZ (.slice none 0 0), .bool false]) (by simp [results, instrV, instrZ, Tryz.results85, go_sem, v0, v1, v2, v3, v4]) rfl ?_
              exact ⟨_, rfl, Kd.R_nil _ _ _ _ _, fk1⟩
        · rw [if_neg (by rw [HM.out]; exact hm0)] at hst
          simp only [List.drop_one] at hst
          have g0 : 0 < m := by omega
          have g1 : (0 : Int) < (m : Int) := by omega
          have g2 : (1 : Int) ≤ (m : Int) := by omega
          have hlo := cut_lo M m 1 HM.out
          by_cases c2 : C = 110
          · rw [if_pos c2] at hst
            have t2 : ((C : Int) == 110) = true := by simp; omega
            have hcut := cut_hi M 1
            have hnb := fun w => refNumber_any (strA (M.take 1)) w (by rw [strA_size]; have := List.length_take_le 1 M; omega)
            obtain ⟨⟨nv, nk⟩, hN⟩ : ∃ R, numR (strA (M.take 1)) = R := ⟨_, rfl⟩
            rw [hN] at hst hnb
            have HST := hidP hst
            have HNB := hidP hnb
            clear hst hnb hN c1 c2 hm0
            go_wp2_with fail
            refine (HNB.out _).mono ?_
            rintro e w3 ⟨rfl, hb3⟩
            have hB3 := bstep hb hb3
            have HR3 := hidP (blk_below HR1.out hb3)
            have HF3 := hidP (blk_below HF1.out hb3)
            have HX3 := hidP (blk_below HX1.out hb3)
            have hz3 := hb3.size
            have x3 : w3.cell? ⟨w.heap.size + 2, 3, none⟩ = some _ := (blk_cell HX3.out 3).trans rfl
            have xf3 := blk_frozen HX3.out 3
            go_upto_region 18 with fail
            have HX4 := hidP (blk_set HX3.out 3 (.int .i64 nv))
            have HR4 := hidP (blk_far (p := ⟨w.heap.size + 2, 3, none⟩) HR3.out (by show w.heap.size + 1 ≠ w.heap.size + 2; omega) (.int .i64 nv))
            have HF4 := hidP (blk_far (p := ⟨w.heap.size + 2, 3, none⟩) HF3.out (by show w.heap.size ≠ w.heap.size + 2; omega) (.int .i64 nv))
            have hB4 := hB3.setCell (p := ⟨w.heap.size + 2, 3, none⟩) (by show w.heap.size ≤ w.heap.size + 2; omega) (.int .i64 nv)
            generalize w3.setCell ⟨w.heap.size + 2, 3, none⟩ (.int .i64 nv) = w4 at *
            have hl4 := blk_lt HR4.out
            clear x3 xf3
            cases nk
            · have hE : E = none := by rw [HST.out]; simp
              have hXX : X = (instrZ, false) := by rw [← HX.out, hE]
              subst hXX
              clear hE
              have rf0 := blk_frozen HR4.out 0
              have rf1 := blk_frozen HR4.out 1
              have rf2 := blk_frozen HR4.out 2
              have rf3 := blk_frozen HR4.out 3
              have rf4 := blk_frozen HR4.out 4
              have rc0 : w4.cell? ⟨w.heap.size + 1, 0, none⟩ = some _ := (blk_cell HR4.out 0).trans rfl
              have rc1 : w4.cell? ⟨w.heap.size + 1, 1, none⟩ = some _ := (blk_cell HR4.out 1).trans rfl
              have rc2 : w4.cell? ⟨w.heap.size + 1, 2, none⟩ = some _ := (blk_cell HR4.out 2).trans rfl
              have rc3 : w4.cell? ⟨w.heap.size + 1, 3, none⟩ = some _ := (blk_cell HR4.out 3).trans rfl
              have rc4 : w4.cell? ⟨w.heap.size + 1, 4, none⟩ = some _ := (blk_cell HR4.out 4).trans rfl
              go_wp2
              have fb1 := (blk_set (blk_set (blk_set (blk_set (blk_set HR4.out 0 (.int .i64 0)) 1 (.int .i64 0)) 2 (.int .i64 0)) 3 (.int .i64 0)) 4 (.slice none 0 0)).trans rfl
              have fk1 := ((((hB4.setCell (p := ⟨w.heap.size + 1, 0, none⟩) (by show w.heap.size ≤ w.heap.size + 1; omega) (.int .i64 0)).setCell (p := ⟨w.heap.size + 1, 1, none⟩) (by show w.heap.size ≤ w.heap.size + 1; omega) (.int .i64 0)).setCell (p := ⟨w.heap.size + 1, 2, none⟩) (by show w.heap.size ≤ w.heap.size + 1; omega) (.int .i64 0)).setCell (p := ⟨w.heap.size + 1, 3, none⟩) (by show w.heap.size ≤ w.heap.size + 1; omega) (.int .i64 0)).setCell (p := ⟨w.heap.size + 1, 4, none⟩) (by show w.heap.size ≤ w.heap.size + 1; omega) (.slice none 0 0)
              generalize ((((w4.setCell ⟨w.heap.size + 1, 0, none⟩ (.int .i64 0)).setCell ⟨w.heap.size + 1, 1, none⟩ (.int .i64 0)).setCell ⟨w.heap.size + 1, 2, none⟩ (.int .i64 0)).setCell ⟨w.heap.size + 1, 3, none⟩ (.int .i64 0)).setCell ⟨w.heap.size + 1, 4, none⟩ (.slice none 0 0) = w9 at *
              have v0 : w9.cell? ⟨w.heap.size + 1, 0, none⟩ = some _ := (blk_cell fb1 0).trans rfl
              have v1 : w9.cell? ⟨w.heap.size + 1, 1, none⟩ = some _ := (blk_cell fb1 1).trans rfl
              have v2 : w9.cell? ⟨w.heap.size + 1, 2, none⟩ = some _ := (blk_cell fb1 2).trans rfl
              have v3 : w9.cell? ⟨w.heap.size + 1, 3, none⟩ = some _ := (blk_cell fb1 3).trans rfl
              have v4 : w9.cell? ⟨w.heap.size + 1, 4, none⟩ = some _ := (blk_cell fb1 4).trans rfl
              refine bodyPost_ret (v := .tuple #[instrV instrZ (.slice none 0 0), .bool false]) (by simp [results, instrV, instrZ, Tryz.results85, go_sem, v0, v1, v2, v3, v4]) rfl ?_
              exact ⟨_, rfl, Kd.R_nil _ _ _ _ _, fk1⟩
            · have hE := HST.out
              rw [if_pos rfl] at hE
              have HEE := hidP hE.symm
              clear hE
              go_wp2
              go_roundw
              case rel => exact ⟨k + 1, M.tail, _, _, _, rfl, by go_num, by omega, by show (M.tail).length ≤ 1000000; (first | rw [List.length_drop, HM.out] | rw [List.length_tail, HM.out]); omega, fun x hx => HMA.out x (by first | exact List.mem_of_mem_drop hx | exact List.mem_of_mem_tail hx), HEE.out, HF4.out, HR4.out, HX4.out, hB4⟩
              case measure => simp [intOf]; omega
          · rw [if_neg c2] at hst
            have t2 : ((C : Int) == 110) = false := by simp; omega
            have hix0 := fun w => (show (Instr.index 9 (.string (strA M)) (.int .i64 0)).run Tryz.prog w = .ok (.int .u8 (chr M 0 : Int)) w from Tryz.idx_strA M 0 (by rw [HM.out]; exact g0) HMA.out w)
            have hc128 := chr_lt HMA.out 0
            have hwr : IntKind.i64.wrap ((chr M 0 : Nat) : Int) = ((chr M 0 : Nat) : Int) := IntWalk.i64_in _ (by omega)
            have hrg := fun w => refReg_any (chr M 0 : Int) (by omega) (by omega) w
            obtain ⟨c0, hc0⟩ : ∃ c0, chr M 0 = c0 := ⟨_, rfl⟩
            rw [hc0] at hix0 hwr hrg hst
            obtain ⟨⟨nv, nk⟩, hN⟩ : ∃ R, regR (c0 : Int) = R := ⟨_, rfl⟩
            rw [hN] at hst hrg
            have HRG := hidP hrg
            by_cases c3 : C = 97
            · rw [if_pos c3] at hst
              have t3 : ((C : Int) == 97) = true := by simp; omega
              have HST := hidP hst
              clear hst hrg hN c1 c2 c3 hm0 hc0
              go_wp2_with fail
              refine (HRG.out _).mono ?_
              rintro e w3 ⟨rfl, e3⟩
              have hb3 : Below w1.heap.size w1 w3 := e3 ▸ brefl w1
              clear e3
              have hB3 := bstep hb hb3
              have HR3 := hidP (blk_below HR1.out hb3)
              have HF3 := hidP (blk_below HF1.out hb3)
              have HX3 := hidP (blk_below HX1.out hb3)
              have hz3 := hb3.size
              have x3 : w3.cell? ⟨w.heap.size + 2, 1, none⟩ = some _ := (blk_cell HX3.out 1).trans rfl
              have xf3 := blk_frozen HX3.out 1
              go_upto_region 18 with fail
              have HX4 := hidP (blk_set HX3.out 1 (.int .i64 nv))
              have HR4 := hidP (blk_far (p := ⟨w.heap.size + 2, 1, none⟩) HR3.out (by show w.heap.size + 1 ≠ w.heap.size + 2; omega) (.int .i64 nv))
              have HF4 := hidP (blk_far (p := ⟨w.heap.size + 2, 1, none⟩) HF3.out (by show w.heap.size ≠ w.heap.size + 2; omega) (.int .i64 nv))
              have hB4 := hB3.setCell (p := ⟨w.heap.size + 2, 1, none⟩) (by show w.heap.size ≤ w.heap.size + 2; omega) (.int .i64 nv)
              generalize w3.setCell ⟨w.heap.size + 2, 1, none⟩ (.int .i64 nv) = w4 at *
              have hl4 := blk_lt HR4.out
              clear x3 xf3
              cases nk
              · have hE : E = none := by rw [HST.out]; simp
                have hXX : X = (instrZ, false) := by rw [← HX.out, hE]
                subst hXX
                clear hE
                have rf0 := blk_frozen HR4.out 0
                have rf1 := blk_frozen HR4.out 1
                have rf2 := blk_frozen HR4.out 2
                have rf3 := blk_frozen HR4.out 3
                have rf4 := blk_frozen HR4.out 4
                have rc0 : w4.cell? ⟨w.heap.size + 1, 0, none⟩ = some _ := (blk_cell HR4.out 0).trans rfl
                have rc1 : w4.cell? ⟨w.heap.size + 1, 1, none⟩ = some _ := (blk_cell HR4.out 1).trans rfl
                have rc2 : w4.cell? ⟨w.heap.size + 1, 2, none⟩ = some _ := (blk_cell HR4.out 2).trans rfl
                have rc3 : w4.cell? ⟨w.heap.size + 1, 3, none⟩ = some _ := (blk_cell HR4.out 3).trans rfl
                have rc4 : w4.cell? ⟨w.heap.size + 1, 4, none⟩ = some _ := (blk_cell HR4.out 4).trans rfl
                go_wp2
                have fb1 := (blk_set (blk_set (blk_set (blk_set (blk_set HR4.out 0 (.int .i64 0)) 1 (.int .i64 0)) 2 (.int .i64 0)) 3 (.int .i64 0)) 4 (.slice none 0 0)).trans rfl
                have fk1 := ((((hB4.setCell (p := ⟨w.heap.size + 1, 0, none⟩) (by show w.heap.size ≤ w.heap.size + 1; omega) (.int .i64 0)).setCell (p := ⟨w.heap.size + 1, 1, none⟩) (by show w.heap.size ≤ w.heap.size + 1; omega) (.int .i64 0)).setCell (p := ⟨w.heap.size + 1, 2, none⟩) (by show w.heap.size ≤ w.heap.size + 1; omega) (.int .i64 0)).setCell (p := ⟨w.heap.size + 1, 3, none⟩) (by show w.heap.size ≤ w.heap.size + 1; omega) (.int .i64 0)).setCell (p := ⟨w.heap.size + 1, 4, none⟩) (by show w.heap.size ≤ w.heap.size + 1; omega) (.slice none 0 0)
                generalize ((((w4.setCell ⟨w.heap.size + 1, 0, none⟩ (.int .i64 0)).setCell ⟨w.heap.size + 1, 1, none⟩ (.int .i64 0)).setCell ⟨w.heap.size + 1, 2, none⟩ (.int .i64 0)).setCell ⟨w.heap.size + 1, 3, none⟩ (.int .i64 0)).setCell ⟨w.heap.size + 1, 4, none⟩ (.slice none 0 0) = w9 at *
                have v0 : w9.cell? ⟨w.heap.size + 1, 0, none⟩ = some _ := (blk_cell fb1 0).trans rfl
                have v1 : w9.cell? ⟨w.heap.size + 1, 1, none⟩ = some _ := (blk_cell fb1 1).trans rfl
                have v2 : w9.cell? ⟨w.heap.size + 1, 2, none⟩ = some _ := (blk_cell fb1 2).trans rfl
                have v3 : w9.cell? ⟨w.heap.size + 1, 3, none⟩ = some _ := (blk_cell fb1 3).trans rfl
                have v4 : w9.cell? ⟨w.heap.size + 1, 4, none⟩ = some _ := (blk_cell fb1 4).trans rfl
                refine bodyPost_ret (v := .tuple #[instrV instrZ (.slice none 0 0), .bool false]) (by simp [results, instrV, instrZ, Tryz.results85, go_sem, v0, v1, v2, v3, v4]) rfl ?_
                exact ⟨_, rfl, Kd.R_nil _ _ _ _ _, fk1⟩
              · have hE := HST.out
                rw [if_pos rfl] at hE
                have HEE := hidP hE.symm
                clear hE
                go_wp2
                go_roundw
                case rel => exact ⟨k + 1, M.tail, _, _, _, rfl, by go_num, by omega, by show (M.tail).length ≤ 1000000; (first | rw [List.length_drop, HM.out] | rw [List.length_tail, HM.out]); omega, fun x hx => HMA.out x (by first | exact List.mem_of_mem_drop hx | exact List.mem_of_mem_tail hx), HEE.out, HF4.out, HR4.out, HX4.out, hB4⟩
                case measure => simp [intOf]; omega
            · rw [if_neg c3] at hst
              have t3 : ((C : Int) == 97) = false := by simp; omega
              have HST := hidP hst
              clear hst hrg hN c1 c2 c3 hm0 hc0
              go_wp2_with fail
              refine (HRG.out _).mono ?_
              rintro e w3 ⟨rfl, e3⟩
              have hb3 : Below w1.heap.size w1 w3 := e3 ▸ brefl w1
              clear e3
              have hB3 := bstep hb hb3
              have HR3 := hidP (blk_below HR1.out hb3)
              have HF3 := hidP (blk_below HF1.out hb3)
              have HX3 := hidP (blk_below HX1.out hb3)
              have hz3 := hb3.size
              have x3 : w3.cell? ⟨w.heap.size + 2, 2, none⟩ = some _ := (blk_cell HX3.out 2).trans rfl
              have xf3 := blk_frozen HX3.out 2
              go_upto_region 18 with fail
              have HX4 := hidP (blk_set HX3.out 2 (.int .i64 nv))
              have HR4 := hidP (blk_far (p := ⟨w.heap.size + 2, 2, none⟩) HR3.out (by show w.heap.size + 1 ≠ w.heap.size + 2; omega) (.int .i64 nv))
              have HF4 := hidP (blk_far (p := ⟨w.heap.size + 2, 2, none⟩) HF3.out (by show w.heap.size ≠ w.heap.size + 2; omega) (.int .i64 nv))
              have hB4 := hB3.setCell (p := ⟨w.heap.size + 2, 2, none⟩) (by show w.heap.size ≤ w.heap.size + 2; omega) (.int .i64 nv)
              generalize w3.setCell ⟨w.heap.size + 2, 2, none⟩ (.int .i64 nv) = w4 at *
              have hl4 := blk_lt HR4.out
              clear x3 xf3
              cases nk
              · have hE : E = none := by rw [HST.out]; simp
                have hXX : X = (instrZ, false) := by rw [← HX.out, hE]
                subst hXX
                clear hE
                have rf0 := blk_frozen HR4.out 0
                have rf1 := blk_frozen HR4.out 1
                have rf2 := blk_frozen HR4.out 2
                have rf3 := blk_frozen HR4.out 3
                have rf4 := blk_frozen HR4.out 4
                have rc0 : w4.cell? ⟨w.heap.size + 1, 0, none⟩ = some _ := (blk_cell HR4.out 0).trans rfl
                have rc1 : w4.cell? ⟨w.heap.size + 1, 1, none⟩ = some _ := (blk_cell HR4.out 1).trans rfl
                have rc2 : w4.cell? ⟨w.heap.size + 1, 2, none⟩ = some _ := (blk_cell HR4.out 2).trans rfl
                have rc3 : w4.cell? ⟨w.heap.size + 1, 3, none⟩ = some _ := (blk_cell HR4.out 3).trans rfl
                have rc4 : w4.cell? ⟨w.heap.size + 1, 4, none⟩ = some _ := (blk_cell HR4.out 4).trans rfl
                go_wp2
                have fb1 := (blk_set (blk_set (blk_set (blk_set (blk_set HR4.out 0 (.int .i64 0)) 1 (.int .i64 0)) 2 (.int .i64 0)) 3 (.int .i64 0)) 4 (.slice none 0 0)).trans rfl
                have fk1 := ((((hB4.setCell (p := ⟨w.heap.size + 1, 0, none⟩) (by show w.heap.size ≤ w.heap.size + 1; omega) (.int .i64 0)).setCell (p := ⟨w.heap.size + 1, 1, none⟩) (by show w.heap.size ≤ w.heap.size + 1; omega) (.int .i64 0)).setCell (p := ⟨w.heap.size + 1, 2, none⟩) (by show w.heap.size ≤ w.heap.size + 1; omega) (.int .i64 0)).setCell (p := ⟨w.heap.size + 1, 3, none⟩) (by show w.heap.size ≤ w.heap.size + 1; omega) (.int .i64 0)).setCell (p := ⟨w.heap.size + 1, 4, none⟩) (by show w.heap.size ≤ w.heap.size + 1; omega) (.slice none 0 0)
                generalize ((((w4.setCell ⟨w.heap.size + 1, 0, none⟩ (.int .i64 0)).setCell ⟨w.heap.size + 1, 1, none⟩ (.int .i64 0)).setCell ⟨w.heap.size + 1, 2, none⟩ (.int .i64 0)).setCell ⟨w.heap.size + 1, 3, none⟩ (.int .i64 0)).setCell ⟨w.heap.size + 1, 4, none⟩ (.slice none 0 0) = w9 at *
                have v0 : w9.cell? ⟨w.heap.size + 1, 0, none⟩ = some _ := (blk_cell fb1 0).trans rfl
                have v1 : w9.cell? ⟨w.heap.size + 1, 1, none⟩ = some _ := (blk_cell fb1 1).trans rfl
                have v2 : w9.cell? ⟨w.heap.size + 1, 2, none⟩ = some _ := (blk_cell fb1 2).trans rfl
                have v3 : w9.cell? ⟨w.heap.size + 1, 3, none⟩ = some _ := (blk_cell fb1 3).trans rfl
                have v4 : w9.cell? ⟨w.heap.size + 1, 4, none⟩ = some _ := (blk_cell fb1 4).trans rfl
                refine bodyPost_ret (v := .tuple #[instrV instrZ (.slice none 0 0), .bool false]) (by simp [results, instrV, instrZ, Tryz.results85, go_sem, v0, v1, v2, v3, v4]) rfl ?_
                exact ⟨_, rfl, Kd.R_nil _ _ _ _ _, fk1⟩
              · have hE := HST.out
                rw [if_pos rfl] at hE
                have HEE := hidP hE.symm
                clear hE
                go_wp2
                go_roundw
                case rel => exact ⟨k + 1, M.tail, _, _, _, rfl, by go_num, by omega, by show (M.tail).length ≤ 1000000; (first | rw [List.length_drop, HM.out] | rw [List.length_tail, HM.out]); omega, fun x hx => HMA.out x (by first | exact List.mem_of_mem_drop hx | exact List.mem_of_mem_tail hx), HEE.out, HF4.out, HR4.out, HX4.out, hB4⟩
                case measure => simp [intOf]; omega
    · have hE : E = some (a, b, n, M) := by
        have := HF.out
        rw [List.drop_eq_nil_of_le (by rw [HNF.out]; omega)] at this
        exact this.symm
      have hXX : X = (⟨op, a, b, n, []⟩, M.isEmpty) := by rw [← HX.out, hE]
      have x0 : w1.cell? ⟨w.heap.size + 2, 0, none⟩ = some _ := (blk_cell HX1.out 0).trans rfl
      have x1 : w1.cell? ⟨w.heap.size + 2, 1, none⟩ = some _ := (blk_cell HX1.out 1).trans rfl
      have x2 : w1.cell? ⟨w.heap.size + 2, 2, none⟩ = some _ := (blk_cell HX1.out 2).trans rfl
      have x3 : w1.cell? ⟨w.heap.size + 2, 3, none⟩ = some _ := (blk_cell HX1.out 3).trans rfl
      have x4 : w1.cell? ⟨w.heap.size + 2, 4, none⟩ = some _ := (blk_cell HX1.out 4).trans rfl
      have HXX := hidP hXX
      have hemp := strA_empty M
      obtain ⟨bv, hbv⟩ : ∃ bv, M.isEmpty = bv := ⟨_, rfl⟩
      rw [hbv] at hemp
      have hXX2 : X = (⟨op, a, b, n, []⟩, bv) := by rw [HXX.out, hbv]
      subst hXX2
      clear hE hXX hbv
      have rf0 := blk_frozen HR1.out 0
      have rf1 := blk_frozen HR1.out 1
      have rf2 := blk_frozen HR1.out 2
      have rf3 := blk_frozen HR1.out 3
      have rf4 := blk_frozen HR1.out 4
      have rc0 : w1.cell? ⟨w.heap.size + 1, 0, none⟩ = some _ := (blk_cell HR1.out 0).trans rfl
      have rc1 : w1.cell? ⟨w.heap.size + 1, 1, none⟩ = some _ := (blk_cell HR1.out 1).trans rfl
      have rc2 : w1.cell? ⟨w.heap.size + 1, 2, none⟩ = some _ := (blk_cell HR1.out 2).trans rfl
      have rc3 : w1.cell? ⟨w.heap.size + 1, 3, none⟩ = some _ := (blk_cell HR1.out 3).trans rfl
      have rc4 : w1.cell? ⟨w.heap.size + 1, 4, none⟩ = some _ := (blk_cell HR1.out 4).trans rfl
      go_wp2
      have fb1 := (blk_set (blk_set (blk_set (blk_set (blk_set HR1.out 0 (.int .i64 op)) 1 (.int .i64 a)) 2 (.int .i64 b)) 3 (.int .i64 n)) 4 (.slice none 0 0)).trans rfl
      have fk1 := ((((hb.setCell (p := ⟨w.heap.size + 1, 0, none⟩) (by show w.heap.size ≤ w.heap.size + 1; omega) (.int .i64 op)).setCell (p := ⟨w.heap.size + 1, 1, none⟩) (by show w.heap.size ≤ w.heap.size + 1; omega) (.int .i64 a)).setCell (p := ⟨w.heap.size + 1, 2, none⟩) (by show w.heap.size ≤ w.heap.size + 1; omega) (.int .i64 b)).setCell (p := ⟨w.heap.size + 1, 3, none⟩) (by show w.heap.size ≤ w.heap.size + 1; omega) (.int .i64 n)).setCell (p := ⟨w.heap.size + 1, 4, none⟩) (by show w.heap.size ≤ w.heap.size + 1; omega) (.slice none 0 0)
      generalize ((((w1.setCell ⟨w.heap.size + 1, 0, none⟩ (.int .i64 op)).setCell ⟨w.heap.size + 1, 1, none⟩ (.int .i64 a)).setCell ⟨w.heap.size + 1, 2, none⟩ (.int .i64 b)).setCell ⟨w.heap.size + 1, 3, none⟩ (.int .i64 n)).setCell ⟨w.heap.size + 1, 4, none⟩ (.slice none 0 0) = w9 at *
      have v0 : w9.cell? ⟨w.heap.size + 1, 0, none⟩ = some _ := (blk_cell fb1 0).trans rfl
      have v1 : w9.cell? ⟨w.heap.size + 1, 1, none⟩ = some _ := (blk_cell fb1 1).trans rfl
      have v2 : w9.cell? ⟨w.heap.size + 1, 2, none⟩ = some _ := (blk_cell fb1 2).trans rfl
      have v3 : w9.cell? ⟨w.heap.size + 1, 3, none⟩ = some _ := (blk_cell fb1 3).trans rfl
      have v4 : w9.cell? ⟨w.heap.size + 1, 4, none⟩ = some _ := (blk_cell fb1 4).trans rfl
      refine bodyPost_ret (v := .tuple #[instrV ⟨op, a, b, n, []⟩ (.slice none 0 0), .bool bv]) (by simp [results, instrV, Tryz.results85, go_sem, v0, v1, v2, v3, v4]) rfl ?_
      exact ⟨_, rfl, Kd.R_nil _ _ _ _ _, fk1⟩
end Go.Proofs.YtklfboidjnchoaaGreatDoor
