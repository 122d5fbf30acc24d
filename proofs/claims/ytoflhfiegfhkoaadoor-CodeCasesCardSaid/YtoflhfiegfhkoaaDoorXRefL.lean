/-
  The walk over the reference's Lines.
-/
import Derived.Test.YtoflhfiegfhkoaaDoorXRef
import Derived.Lib.OthersKept
namespace Go.Proofs.YtoflhfiegfhkoaaDoor
open Go.RowKit
set_option linter.unusedVariables false

/-- A row stays while an iterator goes on. -/
theorem own_iter {w : World} {B e size n : Nat} {v : Value} {xs : List Value} {k : Nat} {s : ByteArray} {pos : Nat} (h : w.ownsRow B e size v n xs) (hk : w.heap[k]? = some (.stringIter s pos)) (q : Nat) : (w.iterAt k s q).ownsRow B e size v n xs := by
  obtain ⟨h1, h2⟩ := h
  refine ⟨h1, ?_⟩
  rcases h2 with h0 | ⟨g, cap, cur, hv, hb, hg, hr⟩
  · exact .inl h0
  · have hne : g ≠ k := fun e => by rw [e, hk] at hg; cases hg
    exact .inr ⟨g, cap, cur, hv, hb, (Lib.iterAt_other w k g s q hne).trans hg, hr⟩
theorem ownIt_ne {w : World} {B e size n : Nat} {v : Value} {xs : List Value} {k : Nat} {s : ByteArray} {pos : Nat} (h : w.ownsRow B e size v n xs) (hk : w.heap[k]? = some (.stringIter s pos)) : some k ≠ v.ownBlock := by
  rcases h.2 with ⟨rfl, _⟩ | ⟨g, cap, cur, rfl, hb, hg, hr⟩
  · simp [Value.ownBlock]
  · intro h
    simp only [Value.ownBlock, Option.some.injEq] at h
    subst h
    rw [hk] at hg
    cases hg
def byteB (b : UInt8) : ByteArray := ⟨#[b]⟩
theorem byteB_size (b : UInt8) : (byteB b).size = 1 := rfl
theorem Tryd.conv_byte (b : UInt8) (B c : Nat) (w : World) (h : w.cell? ⟨B, 0, none⟩ = some (.int .u8 (b.toNat : Int))) : (convert 47 9 (.slice (some ⟨B, 0, none⟩) 1 c)).run Tryd.prog w = .ok (.string (byteB b)) w := by
  refine run_convert_bytes_back w _ _ 5 ⟨B, 0, none⟩ c [b] Tryd.underlying47 Tryd.underlying5 Tryd.underlying9 ?_
  intro j hj
  simp at hj
  subst hj
  have e : (⟨B, 0, none⟩ : Addr).add 0 = ⟨B, 0, none⟩ := by simp [Addr.add]
  rw [e, h]
  rfl
def datas (l : List ByteArray) : List (List UInt8) := l.map (·.data.toList)
theorem datas_inj : ∀ {l m : List ByteArray}, datas l = datas m → l = m
  | [], [], _ => rfl
  | [], y :: m, h => by simp [datas] at h
  | x :: l, [], h => by simp [datas] at h
  | x :: l, y :: m, h => by
    unfold datas at h
    rw [List.map_cons, List.map_cons] at h
    injection h with h1 h2
    rw [datas_inj (l := l) (m := m) h2, ByteArray.ext (Array.ext' h1)]
theorem app_byte (x : ByteArray) (b : UInt8) : (x ++ byteB b).data.toList = x.data.toList ++ [b] := by
  rw [ByteArray.data_append, Array.toList_append]; rfl
theorem empty_data (x : ByteArray) : x.toList.isEmpty = x.data.toList.isEmpty := by rw [Lib.toList_data]
theorem drop_at (s : ByteArray) (k : Nat) (h : k < s.size) : s.data.toList.drop k = (s[k]'h) :: s.data.toList.drop (k + 1) := by
  have hl : k < s.data.toList.length := by rw [Array.length_toList]; exact h
  have hb : (s[k]'h) = s.data.toList[k]'hl := by simp; rfl
  rw [List.drop_eq_getElem_cons hl, hb]
theorem drop_all (s : ByteArray) (k : Nat) (h : ¬ k < s.size) : s.data.toList.drop k = [] := by
  apply List.drop_eq_nil_of_le
  rw [Array.length_toList]
  show s.data.size ≤ k
  have : s.data.size = s.size := rfl
  omega

set_option maxRecDepth 100000 in
set_option maxHeartbeats 1600000 in
theorem refLines_any (s : ByteArray) (w : World) (hs : s.size ≤ 1000000) :
    Calls Tryd.prog 37 #[.string s] w (LinesPost w (linesR s).1 (linesR s).2) := by
  obtain ⟨N, hN⟩ : ∃ N, (runesF s 0).length = N := ⟨_, rfl⟩
  have hn := runesF_len s 0
  rw [hN] at hn
  go_enter Tryd.func37, Tryd.ntmps37
  go_wp2_with fail
  go_loopw [4] (fun v4 wr => ∃ (k pos : Nat), v4 = .int .i64 k ∧ k ≤ 140737488355328 ∧ Hid (k + (runesF s pos).length = N) ∧ wr = w.iter s pos) (fun _ wr => s.size - wr.iterPos w.heap.size)
  case atStart => exact ⟨0, 0, rfl, by omega, by show 0 + _ = _; omega, rfl⟩
  case round =>
    obtain ⟨k, pos, rfl, hkm, HK, rfl⟩ := hrel
    by_cases hlt : pos < s.size
    · have hnx := fun ty => run_next_any (P := Tryd.prog) w s pos ty hlt
      have hw1 := Lib.decode_width_pos s pos hlt
      have hst := runesF_step s pos hlt
      obtain ⟨c, hc⟩ : ∃ c, (Utf8.decode s pos).1 = c := ⟨_, rfl⟩
      obtain ⟨wd, hwd⟩ : ∃ wd, (Utf8.decode s pos).2 = wd := ⟨_, rfl⟩
      rw [hc, hwd] at hnx hst
      rw [hwd] at hw1
      have h1 := HK.out
      rw [hst, List.length_cons] at h1
      have hkb : k + 1 ≤ 140737488355328 := by omega
      have HK2 : Hid (k + 1 + (runesF s (pos + wd)).length = N) := by show _ = _; omega
      clear hst hc hwd h1
      go_wp2
      go_roundw
      case rel => exact ⟨k + 1, pos + wd, by go_num, by omega, HK2, rfl⟩
      case measure => simp; omega
    · have hnx := fun ty => run_next_end (P := Tryd.prog) w s pos ty hlt
      have hst := runesF_end s pos hlt
      have h1 := HK.out
      rw [hst] at h1
      simp at h1
      clear hst
      subst h1
      by_cases h2000 : 2000 < k
      · have hr : linesR s = ([], 3) := by unfold linesR; rw [if_pos (by rw [hN]; exact h2000)]
        have g1 : (2000 : Int) < (k : Int) := by omega
        have HR := hidP hr
        clear hr hN h2000
        go_wp2
        go_ret2
        rw [HR.out]
        exact ⟨none, 0, rfl, World.ownsRow_nil _ _ _ _, below_iter _ _ _⟩
      · have g1 : ¬ (2000 : Int) < (k : Int) := by omega
        have hr0 : ¬ 2000 < (runesF s 0).length := by rw [hN]; exact h2000
        have hr : mayAll s = false → linesR s = ([], 4) := fun h => by unfold linesR; rw [if_neg hr0, if_pos h]
        have hr2 : mayAll s = true → linesR s = if (keepB (piecesB s)).length = 0 then ([], 7) else if 60 < (keepB (piecesB s)).length then ([], 3) else (keepB (piecesB s), 0) := fun h => by
          unfold linesR
          rw [if_neg hr0, if_neg (by rw [h]; simp)]
        have HR := hidP hr
        have HR2 := hidP hr2
        have hla := lines_acc s
        have HLA := hidP hla
        have hb1 : Below w.heap.size w (w.iter s pos) := below_iter _ _ _
        clear hr hr2 hr0 hN h2000 hla
        generalize w.iter s pos = w1 at *
        go_wp2_with fail
        have hs1 := hb1.size
        go_loopw [5, 6, 8] (fun v5 v6 v8 wr => ∃ (p j : Nat) (L : List ByteArray) (cur : ByteArray) (vo : Option Addr) (vc : Nat), v5 = .slice vo j vc ∧ v6 = .string cur ∧ p ≤ s.size ∧ j ≤ p ∧ cur.size ≤ p ∧ L.length = j ∧ Hid (datas (keepB (piecesB s)) = datas L ++ accB (s.data.toList.drop p) cur.data.toList) ∧ Hid (mayAll s = (runesF s p).all fun c => mayR c) ∧ wr.ownsRow w1.heap.size 9 1 (.slice vo j vc) j (L.map Value.string) ∧ wr.heap[w1.heap.size]? = some (.stringIter s p) ∧ Below w1.heap.size w1 wr) (fun _ _ _ wr => s.size - wr.iterPos w1.heap.size)
        case atStart => exact ⟨0, 0, [], ⟨#[]⟩, none, 0, rfl, rfl, by omega, by omega, by decide, rfl, HLA.out, rfl, World.ownsRow_nil _ _ _ _, World.iter_heap _ _ _, below_iter _ _ _⟩
        case round =>
          obtain ⟨p, j, L, cur, vo, vc, rfl, rfl, hp, hj, hcs, hLj, HA, HM, hown, hit, hb⟩ := hrel
          by_cases hlt2 : p < s.size
          · have hnx := fun ty => Lib.run_next_any_at (P := Tryd.prog) wr w1.heap.size s p ty hit hlt2
            have hst := runesF_step s p hlt2
            have hda := drop_at s p hlt2
            obtain ⟨b, hbb⟩ : ∃ b, (s[p]'hlt2) = b := ⟨_, rfl⟩
            have hb256 : b.toNat < 256 := UInt8.toNat_lt _
            have hde : b.toNat < 128 → Utf8.decode s p = (b.toNat, 1) := fun h => by rw [decode_ascii s p hlt2 (by rw [hbb]; exact h), hbb]
            have hdh : 128 ≤ b.toNat → mayR ((Utf8.decode s p).1 : Int) = false := fun h => by
              have := (decode_high s p hlt2 (by rw [hbb]; exact h)).1
              unfold mayR; simp; omega
            rw [hbb] at hda
            have h1 := HA.out
            have h2 := HM.out
            rw [hda] at h1
            rw [hst, List.all_cons] at h2
            cases hmr : mayR ((Utf8.decode s p).1 : Int)
            · rw [hmr, Bool.false_and] at h2
              have HR3 := hidP (HR.out h2)
              have hb2 := Lib.below_iterAt hb (Nat.le_refl _) s (p + (Utf8.decode s p).2)
              obtain ⟨c, hc⟩ : ∃ c, (Utf8.decode s p).1 = c := ⟨_, rfl⟩
              rw [hc] at hnx hmr
              generalize wr.iterAt w1.heap.size s (p + (Utf8.decode s p).2) = W at *
              have hcc : ¬ ((c : Int) = 10) ∧ ((c : Int) < 32 ∨ ¬ ((c : Int) < 32) ∧ (126 : Int) < (c : Int)) := by
                unfold mayR at hmr
                simp at hmr
                refine ⟨by omega, by omega⟩
              obtain ⟨t, hcc⟩ := hcc
              have hB := bstep hb1 hb2
              clear hst hda hbb hde hdh h1 h2 hmr hc
              rcases hcc with g1 | ⟨g1, g2⟩
              · go_wp2
                go_ret2
                rw [HR3.out]
                exact ⟨none, 0, rfl, World.ownsRow_nil _ _ _ _, hB⟩
              · go_wp2
                go_ret2
                rw [HR3.out]
                exact ⟨none, 0, rfl, World.ownsRow_nil _ _ _ _, hB⟩
            · have hb128 : b.toNat < 128 := by
                by_cases h : b.toNat < 128
                · exact h
                · rw [hdh (by omega)] at hmr; cases hmr
              rw [hde hb128] at hnx hmr h2
              dsimp only at hnx hmr h2
              rw [hmr, Bool.true_and] at h2
              have HM2 := hidP h2
              have hit2 := Lib.iterAt_heap wr w1.heap.size s p (p + 1) hit
              have hb2 := Lib.below_iterAt hb (Nat.le_refl _) s (p + 1)
              have hown2 := own_iter hown hit (p + 1)
              have hmr' := hmr
              unfold mayR at hmr'
              generalize wr.iterAt w1.heap.size s (p + 1) = W at *
              have hms : s.size - W.iterPos w1.heap.size < s.size - wr.iterPos w1.heap.size := by rw [iterPos_of hit, iterPos_of hit2]; omega
              have HMS := hidP hms
              have hacc := fun r cur => (show accB (b :: r) cur = if b = 10 then (if cur.isEmpty then accB r [] else cur :: accB r []) else if b = 32 then accB r cur else accB r (cur ++ [b]) from rfl)
              rw [hacc] at h1
              clear hst hda hbb hde hdh h2 hmr hit hown hacc hb
              by_cases h10 : b = 10
              · subst h10
                have e10 : (((10 : UInt8).toNat : Nat) : Int) = 10 := rfl
                rw [e10] at hnx
                rw [if_pos rfl] at h1
                cases hcur : cur.toList.isEmpty
                · rw [empty_data] at hcur
                  rw [hcur] at h1
                  have H1 : Hid (datas (keepB (piecesB s)) = datas (L ++ [cur]) ++ accB (s.data.toList.drop (p + 1)) []) := by
                    show _ = _
                    rw [h1]
                    simp [datas]
                  have t0 : cur.toList.isEmpty = false := by rw [empty_data]; exact hcur
                  clear h1 hcur e10 hmr'
                  have hB2 := hb2.size
                  go_wp2_with (at_builtin; go_loud (refine (wpList_app _ rfl (.tmp 50) (.tmp 52) rfl Tryd.slStr w1.heap.size (.slice vo j vc) j (L.map Value.string) rfl (hown2.alloc _) _ 1 1 [.string cur] rfl (j + 1) rfl (RowAt.new _ [.string cur] _) rfl (by simp; rfl) (by omega) (by unfold maxLen; omega) (by simp; omega) ?_)); intro a4 c4 w4 ho4 hg4 hw4)
                  have hIT : w1.heap.size < W.heap.size := (Array.getElem?_eq_some_iff.1 hit2).1
                  have hit4 : w4.heap[w1.heap.size]? = some (.stringIter s (p + 1)) := (hg4.block w1.heap.size (by simp; omega) (ownIt_ne hown2 hit2)).trans ((Below.heap_alloc _ _ _ hIT).trans hit2)
                  have hb4 : Below w1.heap.size w1 w4 := (bnew hb2 _).grown hg4 (by simp; omega) (fun i hi => (hown2.lt i hi).1)
                  refine ⟨⟨p + 1, j + 1, L ++ [cur], ⟨#[]⟩, a4, c4, rfl, rfl, by omega, by omega, by show 0 ≤ _; omega, by simp [hLj], H1.out, HM2.out, by rw [List.map_append]; exact ho4, hit4, hb4⟩, ?_⟩
                  rw [iterPos_of hit4, ← iterPos_of hit2]
                  exact HMS.out
                · rw [empty_data] at hcur
                  rw [hcur] at h1
                  have hnil : cur.data.toList = [] := by simpa using hcur
                  have H1 : Hid (datas (keepB (piecesB s)) = datas L ++ accB (s.data.toList.drop (p + 1)) cur.data.toList) := by
                    show _ = _
                    rw [h1, hnil]
                    rfl
                  have t0 : cur.toList.isEmpty = true := by rw [empty_data]; exact hcur
                  clear h1 hcur e10 hmr' hnil
                  go_wp2
                  go_roundw
                  case rel => exact ⟨p + 1, j, L, cur, vo, vc, rfl, rfl, by omega, by omega, by omega, hLj, H1.out, HM2.out, hown2, hit2, hb2⟩
                  case measure => exact HMS.out
              · rw [if_neg h10] at h1
                by_cases h32 : b = 32
                · subst h32
                  have e32 : (((32 : UInt8).toNat : Nat) : Int) = 32 := rfl
                  rw [e32] at hnx
                  rw [if_pos rfl] at h1
                  have H1 := hidP h1
                  clear h1 e32 hmr'
                  go_wp2
                  go_roundw
                  case rel => exact ⟨p + 1, j, L, cur, vo, vc, rfl, rfl, by omega, by omega, by omega, hLj, H1.out, HM2.out, hown2, hit2, hb2⟩
                  case measure => exact HMS.out
                · rw [if_neg h32, ← app_byte] at h1
                  have H1 := hidP h1
                  have hIT : w1.heap.size < W.heap.size := (Array.getElem?_eq_some_iff.1 hit2).1
                  have hit4 := (Below.heap_alloc W (.cells #[.int .u8 (b.toNat : Int)] 5) _ hIT).trans hit2
                  have hcv := Tryd.conv_byte b W.heap.size 1 (W.alloc (.cells #[.int .u8 (b.toNat : Int)] 5)) (by go_simp)
                  have hsz := byteB_size b
                  have hn10 : ¬ b.toNat = 10 := fun h => h10 (UInt8.toNat_inj.1 (by rw [h]; rfl))
                  have hn32 : ¬ b.toNat = 32 := fun h => h32 (UInt8.toNat_inj.1 (by rw [h]; rfl))
                  obtain ⟨B, hB⟩ : ∃ B, byteB b = B := ⟨_, rfl⟩
                  rw [hB] at hcv hsz
                  have HB := hidP hB
                  obtain ⟨c, hc⟩ : ∃ c, b.toNat = c := ⟨_, rfl⟩
                  rw [hc] at hnx hmr' hcv hn10 hn32 hb128 hit4
                  simp at hmr'
                  have g10 : ¬ (c : Int) = 10 := by omega
                  have b10 : ((c : Int) != 10) = true := by simp; omega
                  have b32 : ((c : Int) != 32) = true := by simp; omega
                  have g32 : ¬ (c : Int) < 32 := by omega
                  have g126 : ¬ (126 : Int) < (c : Int) := by omega
                  have hu : IntKind.u8.wrap (c : Int) = (c : Int) := IntWalk.u8_in _ (by omega)
                  clear h1 hc hmr' h10 h32 hB hn10 hn32
                  go_wp2
                  go_roundw
                  case rel => exact ⟨p + 1, j, L, cur ++ B, vo, vc, rfl, rfl, by omega, by omega, by rw [ByteArray.size_append, hsz]; omega, hLj, by rw [← HB.out]; exact H1.out, HM2.out, hown2.alloc _, hit4, bnew hb2 _⟩
                  case measure => rw [iterPos_of hit4, ← iterPos_of hit2]; exact HMS.out
          · have hnx := fun ty => Lib.run_next_end_at (P := Tryd.prog) wr w1.heap.size s p ty hit hlt2
            have hda := drop_all s p hlt2
            have hst := runesF_end s p hlt2
            have h1 := HA.out
            have h2 := HM.out
            rw [hda] at h1
            rw [hst] at h2
            have hr := HR2.out h2
            obtain ⟨K, hK⟩ : ∃ K, keepB (piecesB s) = K := ⟨_, rfl⟩
            rw [hK] at hr h1
            have HR3 := hidP hr
            clear hda hst h2 hr hK
            cases hcur : cur.toList.isEmpty
            · have t0 : cur.toList.isEmpty = false := hcur
              rw [empty_data] at hcur
              have hK : K = L ++ [cur] := datas_inj (by rw [h1]; simp [accB, hcur, datas])
              have HK := hidP hK
              clear h1 hcur hK
              have HJ2 : Hid (K.length = j + 1) := by show _ = _; rw [HK.out, List.length_append, hLj]; rfl
              have h0 : ¬ K.length = 0 := by rw [HJ2.out]; omega
              have t : ((((j + 1 : Nat) : Int)) == 0) = false := by simp; omega
              have HS := hidP hs1
              by_cases h60 : 60 < j + 1
              · have hr : linesR s = ([], 3) := by rw [HR3.out, if_neg h0, if_pos (by rw [HJ2.out]; exact h60)]
                have g : (60 : Int) < ((j + 1 : Nat) : Int) := by omega
                have HR4 := hidP hr
                clear hr h0
                go_wp2_with (at_builtin; go_loud (refine (wpList_app _ rfl (.tmp 56) (.tmp 58) rfl Tryd.slStr w1.heap.size (.slice vo j vc) j (L.map Value.string) rfl (hown.alloc _) _ 1 1 [.string cur] rfl (j + 1) rfl (RowAt.new _ [.string cur] _) rfl (by simp; rfl) (by omega) (by unfold maxLen; omega) (by have := hb.size; simp; omega) ?_)); intro a4 c4 w4 ho4 hg4 hw4)
                go_ret2
                rw [HR4.out]
                exact ⟨none, 0, rfl, World.ownsRow_nil _ _ _ _, bstep hb1 ((bnew hb _).grown hg4 (by have := hb.size; simp; omega) (fun i hi => (hown.lt i hi).1))⟩
              · have hr : linesR s = (K, 0) := by rw [HR3.out, if_neg h0, if_neg (by rw [HJ2.out]; exact h60)]
                have g : ¬ (60 : Int) < ((j + 1 : Nat) : Int) := by omega
                have HR4 := hidP hr
                clear hr h0
                go_wp2_with (at_builtin; go_loud (refine (wpList_app _ rfl (.tmp 56) (.tmp 58) rfl Tryd.slStr w1.heap.size (.slice vo j vc) j (L.map Value.string) rfl (hown.alloc _) _ 1 1 [.string cur] rfl (j + 1) rfl (RowAt.new _ [.string cur] _) rfl (by simp; rfl) (by omega) (by unfold maxLen; omega) (by have := hb.size; simp; omega) ?_)); intro a4 c4 w4 ho4 hg4 hw4)
                go_ret2
                rw [HR4.out]
                exact ⟨a4, c4, by rw [HJ2.out]; rfl, by rw [HJ2.out, HK.out, List.map_append]; exact owns_mono ho4 HS.out, bstep hb1 ((bnew hb _).grown hg4 (by have := hb.size; simp; omega) (fun i hi => (hown.lt i hi).1))⟩
            · have t0 : cur.toList.isEmpty = true := hcur
              rw [empty_data] at hcur
              have hK : K = L := datas_inj (by rw [h1]; simp [accB, hcur])
              have HK := hidP hK
              clear h1 hcur hK
              have HJ2 : Hid (K.length = j) := by show _ = _; rw [HK.out, hLj]
              have HS := hidP hs1
              have hB := bstep hb1 hb
              have ho := owns_mono hown hs1
              by_cases h0 : j = 0
              · have hr : linesR s = ([], 7) := by rw [HR3.out, if_pos (by rw [HJ2.out]; exact h0)]
                have t : ((j : Int) == 0) = true := by simp; omega
                have HR4 := hidP hr
                clear hr h0
                go_wp2
                go_ret2
                rw [HR4.out]
                exact ⟨none, 0, rfl, World.ownsRow_nil _ _ _ _, hB⟩
              · have t : ((j : Int) == 0) = false := by simp; omega
                by_cases h60 : 60 < j
                · have hr : linesR s = ([], 3) := by rw [HR3.out, if_neg (by rw [HJ2.out]; exact h0), if_pos (by rw [HJ2.out]; exact h60)]
                  have g : (60 : Int) < (j : Int) := by omega
                  have HR4 := hidP hr
                  clear hr h0
                  go_wp2
                  go_ret2
                  rw [HR4.out]
                  exact ⟨none, 0, rfl, World.ownsRow_nil _ _ _ _, hB⟩
                · have hr : linesR s = (K, 0) := by rw [HR3.out, if_neg (by rw [HJ2.out]; exact h0), if_neg (by rw [HJ2.out]; exact h60)]
                  have g : ¬ (60 : Int) < (j : Int) := by omega
                  have HR4 := hidP hr
                  clear hr h0
                  go_wp2
                  go_ret2
                  rw [HR4.out]
                  exact ⟨vo, vc, by rw [HJ2.out]; rfl, by rw [HJ2.out, HK.out]; exact ho, hB⟩

end Go.Proofs.YtoflhfiegfhkoaaDoor
