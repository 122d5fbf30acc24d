/-
  The walk over package code's Write.
-/
import Derived.Test.YtoflhfiegfhkoaaDoorKWrQ
import Derived.Test.YtoflhfiegfhkoaaDoorKWri3
import Derived.Test.YtoflhfiegfhkoaaDoorKEqu2
import Derived.Test.YtoflhfiegfhkoaaDoorKRWrite
namespace Go.Proofs.YtoflhfiegfhkoaaDoor
open Go.RowKit Go.Proofs.YtoflhfiegfhkoaaDoorW.PrintWords
set_option linter.unusedVariables false
set_option linter.unusedSimpArgs false

def casP (c : CaseD) : List Nat := wrP c.ch c.reg c.dest 0 (formP casesL c.kind)
def rP (x : InstrD) : List Nat := wrP x.a x.b x.n 0 (formP formsL x.op) ++ x.cases.flatMap casP
def lP (l : List InstrD) : List Nat := l.flatMap fun x => rP x ++ [10]

theorem nm_letter {r : Int} (h : 0 ≤ r ∧ r < 6) : nmN r = letterN r := by
  unfold nmN letterN
  rw [if_pos (by omega), if_neg (by omega)]
  omega
theorem it_dec {n : Int} (h : 0 ≤ n) : itN n = decN n.toNat := by
  have h1 := itoa_dec h
  have h2 : Lib.itoa n = (decN n.toNat).map UInt8.ofNat := by
    have h3 := congrArg (fun b : ByteArray => b.data.toList) h1
    simpa [strA] using h3
  unfold itN
  rw [h2, List.map_map]
  conv => rhs; rw [← List.map_id (decN n.toNat)]
  apply List.map_congr_left
  intro c hc
  have := (decN_dig n.toNat c hc).2
  simp
  omega
def gD (c : Nat) : Nat := if c = 110 then 68 else c
theorem forms_words : ∀ f ∈ rforms, formP formsL f.op = f.letter :: f.args.map gD ∧ f.letter ≠ 78 ∧ f.letter ≠ 68 ∧ ∀ c ∈ f.args, c = 97 ∨ c = 98 ∨ c = 78 ∨ c = 110 := by decide
theorem args_words {x : InstrD} (ha : 0 ≤ x.a ∧ x.a < 6) (hb : 0 ≤ x.b ∧ x.b < 6) (hn : 0 ≤ x.n) : ∀ (l : List Nat) (i : Nat), (∀ c ∈ l, c = 97 ∨ c = 98 ∨ c = 78 ∨ c = 110) → wrP x.a x.b x.n (i + 1) (l.map gD) = l.flatMap (argW x)
  | [], _, _ => rfl
  | c :: r, i, h => by
    have ih := args_words ha hb hn r (i + 1) fun d hd => h d (List.mem_cons_of_mem _ hd)
    simp only [List.map_cons, wrP, List.flatMap_cons]
    rw [ih]
    congr 1
    rcases h c (List.mem_cons_self ..) with rfl | rfl | rfl | rfl
    · show sgP x.a x.b x.n (i + 1) 97 = [letterN x.a]
      rw [sg_a (by omega), nm_letter ha]
    · show sgP x.a x.b x.n (i + 1) 98 = [letterN x.b]
      rw [sg_b (by omega), nm_letter hb]
    · show sgP x.a x.b x.n (i + 1) 78 = decN x.n.toNat
      rw [sg_n (.inl rfl), it_dec hn]
    · show sgP x.a x.b x.n (i + 1) 68 = decN x.n.toNat
      rw [sg_n (.inr rfl), it_dec hn]
theorem wr_head {a b n : Int} {L : Nat} {M : List Nat} (h1 : L ≠ 78) (h2 : L ≠ 68) : wrP a b n 0 (L :: M) = L :: wrP a b n 1 M := by
  simp only [wrP]
  rw [sg_c (by omega) (by omega) (by omega)]
  rfl
theorem casP_caseW {c : CaseD} (h : caseSt c) : casP c = caseW c := by
  obtain ⟨kd, ch, rg, dt⟩ := c
  unfold caseSt at h
  dsimp only at h
  have hk : kd = 1 ∨ kd = 2 ∨ kd = 3 := by omega
  unfold casP caseW caseH
  dsimp only
  rcases hk with rfl | rfl | rfl
  · rw [show formP casesL 1 = [115, 97, 98, 78] from by decide, wr_head (by decide) (by decide)]
    simp only [wrP]
    rw [sg_a (by omega), sg_b (by omega), sg_n (.inl rfl), nm_letter (by omega), nm_letter (by omega), it_dec (by omega)]
    simp
  · rw [show formP casesL 2 = [114, 97, 98, 78] from by decide, wr_head (by decide) (by decide)]
    simp only [wrP]
    rw [sg_a (by omega), sg_b (by omega), sg_n (.inl rfl), nm_letter (by omega), nm_letter (by omega), it_dec (by omega)]
    simp
  · rw [show formP casesL 3 = [101, 78] from by decide, wr_head (by decide) (by decide)]
    simp only [wrP]
    rw [sg_n (.inl rfl), it_dec (by omega)]
    simp
theorem rP_rW {x : InstrD} (h : rshaped x = true) : rP x = rW x := by
  by_cases h21 : x.op = 21
  · obtain ⟨_, hc⟩ := (rshaped_21 h21).1 h
    unfold rP rW
    rw [if_pos h21, h21, show formP formsL 21 = [83] from by decide, wr_head (by decide) (by decide)]
    simp only [wrP]
    have : x.cases.flatMap casP = x.cases.flatMap caseW := by
      rw [List.flatMap_def, List.flatMap_def]
      congr 1
      apply List.map_congr_left
      intro c hcm
      obtain ⟨j, hj⟩ := List.mem_iff_getElem?.1 hcm
      exact casP_caseW (hc j c hj).1
    rw [this]
    rfl
  · have h' : rshF x rforms = true := by
      unfold rshaped at h
      rw [if_neg h21] at h
      exact h
    obtain ⟨f, hf, hfo, hsh, hW⟩ := rshF_some x rforms h'
    obtain ⟨⟨ha, hb, hn, hcs⟩, _⟩ := rsh_iff.1 hsh
    obtain ⟨e1, e2, e3, e4⟩ := forms_words f hf
    unfold rP rW
    rw [if_neg h21, hW, hcs, ← hfo, e1, wr_head e2 e3, args_words ha hb hn.1 f.args 0 e4]
    simp
end Go.Proofs.YtoflhfiegfhkoaaDoor
namespace Go.Proofs.YtoflhfiegfhkoaaDoor
open Go.RowKit Go.Proofs.YtoflhfiegfhkoaaDoorW.PrintWords
set_option linter.unusedVariables false
set_option linter.unusedSimpArgs false

theorem lP_text {l : List InstrD} (h : ∀ x ∈ l, rshaped x = true) : lP l = textW l := by
  induction l with
  | nil => rfl
  | cons x r ih =>
    have := ih fun y hy => h y (List.mem_cons_of_mem _ hy)
    unfold lP textW joinW at this ⊢
    rw [List.flatMap_cons, List.map_cons, List.flatMap_cons, this, rP_rW (h x (List.mem_cons_self ..))]
theorem write_yes2 {l : List InstrD} {k : Nat} {T : List Nat} (hT : T = lP (l.take k)) (hk : k = min l.length 61) (h0 : l.length ≠ 0)
    (hD : (decodeR (strA T)).2.2 = 0) (he : l = (decodeR (strA T)).1) : writeR l = (T, 0) := by
  have h2 := (decode_shaped hD).2.1
  rw [← he] at h2
  exact write_yes (k := k) (fun h => by rw [hT]; exact lP_text h) (.inl (by omega)) h0 hD he
theorem write_no2 {l : List InstrD} {k : Nat} {T : List Nat} (hT : T = lP (l.take k)) (hk : k = min l.length 61) (h0 : l.length ≠ 0)
    (h : ¬ ((decodeR (strA T)).2.2 = 0 ∧ l = (decodeR (strA T)).1)) : writeR l = ([], 5) := by
  by_cases hl : l.length ≤ 60
  · exact write_no (k := k) (fun h => by rw [hT]; exact lP_text h) (.inl (by omega)) h0 h
  · unfold writeR
    rw [if_neg h0, if_neg]
    unfold okW
    simp
    intro _ h2
    omega
theorem lP_take (l : List InstrD) (k : Nat) : (lP (l.take k)).length ≤ (lP l).length := by
  have h : lP l = lP (l.take k) ++ lP (l.drop k) := by
    unfold lP
    rw [← List.flatMap_append, List.take_append_drop]
  rw [h, List.length_append]
  omega
theorem formP_few {Ps : List (List Nat)} (h : ∀ P ∈ Ps, P.length ≤ 4 ∧ ∀ x ∈ P, x < 128) (i : Int) : (formP Ps i).length ≤ 4 ∧ ∀ x ∈ formP Ps i, x < 128 := by
  unfold formP
  split
  · simp
  · rename_i hh
    rw [List.getD_eq_getElem?_getD, List.getElem?_eq_getElem (by omega)]
    exact h _ (List.getElem_mem _)
theorem formsL_few : ∀ P ∈ formsL, P.length ≤ 4 ∧ ∀ x ∈ P, x < 128 := by decide
theorem casesL_few : ∀ P ∈ casesL, P.length ≤ 4 ∧ ∀ x ∈ P, x < 128 := by decide
theorem casP_len {c : CaseD} (h : caseIn c) : (casP c).length ≤ 84 := by
  have h1 := (formP_few casesL_few c.kind).1
  have h2 := wrP_len c.ch c.reg c.dest h.2.2.2.1 h.2.2.2.2 (formP casesL c.kind) 0
  unfold casP
  omega
theorem casP_all : ∀ (l : List CaseD), (∀ c ∈ l, caseIn c) → (l.flatMap casP).length ≤ 84 * l.length
  | [], _ => by simp
  | c :: r, h => by
    have h1 := casP_len (h c (List.mem_cons_self ..))
    have h2 := casP_all r fun d hd => h d (List.mem_cons_of_mem _ hd)
    rw [List.flatMap_cons, List.length_append, List.length_cons]
    omega
theorem lP_len : ∀ (l : List InstrD), (∀ x ∈ l, instrIn x) → (∀ x ∈ l, x.cases.length ≤ 20) → (lP l).length ≤ 1800 * l.length
  | [], _, _ => by simp [lP]
  | x :: r, h, hc => by
    have h0 := h x (List.mem_cons_self ..)
    have h1 := (formP_few formsL_few x.op).1
    have h2 := wrP_len x.a x.b x.n h0.2.2.2.1.1 h0.2.2.2.1.2 (formP formsL x.op) 0
    have h3 := casP_all x.cases h0.2.2.2.2
    have h4 := hc x (List.mem_cons_self ..)
    have ih := lP_len r (fun y hy => h y (List.mem_cons_of_mem _ hy)) (fun y hy => hc y (List.mem_cons_of_mem _ hy))
    have e : lP (x :: r) = (rP x ++ [10]) ++ lP r := rfl
    have e2 : (rP x).length = (wrP x.a x.b x.n 0 (formP formsL x.op)).length + (x.cases.flatMap casP).length := by unfold rP; rw [List.length_append]
    have e3 : (x :: r).length = r.length + 1 := rfl
    have e4 : ([10] : List Nat).length = 1 := rfl
    rw [e, List.length_append, List.length_append, e2, e3, e4]
    omega
/-- A box's cells. -/
def Box (X : Nat) (cs : Array Value) (t : TypeId) (w : World) : Prop := w.heap[X]? = some (.cells cs t)
theorem Box.below {X : Nat} {cs : Array Value} {t : TypeId} {w w' : World} (h : Box X cs t w) (hb : Below w.heap.size w w') : Box X cs t w' := (hb.block X (Array.getElem?_eq_some_iff.1 h).1).trans h
theorem Box.nb {X N : Nat} {cs : Array Value} {t : TypeId} {w w' : World} (h : Box X cs t w) (hk : KeepNB N w w') (hx : X ≠ N) (ht : t ≠ 5) : Box X cs t w' := hk X _ h hx (by intro c f e; cases e; exact ht rfl)
theorem Box.cell {X : Nat} {cs : Array Value} {t : TypeId} {w : World} (h : Box X cs t w) (i : Nat) : w.cell? ⟨X, i, none⟩ = cs[i]? := (blk_cell h i).trans rfl

set_option maxRecDepth 100000 in
set_option maxHeartbeats 6400000 in
theorem write_any (A : Option Addr) (d : Nat) (l : List InstrD) (w : World) (h : kI.C w A l.length l) (hi : ∀ x ∈ l, instrIn x) (hcl : ∀ x ∈ l, x.cases.length ≤ 2000) (hl : l.length ≤ 1000000) (hlp : (lP l).length ≤ 1000000) (hd : l.length ≤ d) (he : Env w) (hp : Pow10 w) :
    Calls Tryd.prog 26 #[.slice A l.length d] w (WritePost w (writeR l)) := by
  obtain ⟨R, hR⟩ : ∃ R, writeR l = R := ⟨_, rfl⟩
  rw [hR]
  have HR := hidP hR
  have H := hidP h
  have HI := hidP hi
  have HCL := hidP hcl
  have HLP := hidP hlp
  obtain ⟨n, hn⟩ : ∃ n, l.length = n := ⟨_, rfl⟩
  rw [hn] at hl hd ⊢
  have HN := hidP hn
  clear hR h hi hcl hlp hn
  by_cases h0 : n = 0
  · have hR : R = ([], 7) := by rw [← HR.out]; unfold writeR; rw [if_pos (by rw [HN.out]; exact h0)]
    have t0 : ((n : Int) == 0) = true := by simp [h0]
    subst hR
    clear h0
    go_enter Tryd.func26, Tryd.ntmps26
    go_wp2_with fail
    go_ret2
    exact ⟨rfl, brefl _⟩
  · have t0 : ((n : Int) == 0) = false := by simp; omega
    have H0 := hidP (show l.length ≠ 0 by rw [HN.out]; exact h0)
    obtain ⟨M, hM⟩ : ∃ M, min n 61 = M := ⟨_, rfl⟩
    have tm : min (n : Int) 61 = (M : Int) := by omega
    have hM1 : M ≤ n := by omega
    have hM2 : M ≤ 61 := by omega
    have hM3 : M ≤ d := by omega
    have HM := hidP hM
    obtain ⟨b, o, rfl⟩ : ∃ b o, A = some ⟨b, o, none⟩ := by
      obtain ⟨b, o, _, _, e, _⟩ := instr_at H.out 0 (l.head (by intro e; exact H0.out (by rw [e]; rfl))) (by cases l; exact absurd rfl H0.out; rfl)
      exact ⟨b, o, e⟩
    have hcut : cutA (some ⟨b, o, none⟩) 0 d 5 = some ⟨b, o, none⟩ := by unfold cutA; rw [if_neg (by omega)]; simp [Addr.add_lit]
    clear hM
    go_enter Tryd.func26, Tryd.ntmps26
    go_wp2_with fail
    have hbel0 := bnew (brefl w) (.cells #[.pointer none, .slice none 0 0] 67)
    have hbld0 := Lib.fresh_isBuilder 67 5 w
    have hsz0 : w.heap.size + 1 ≤ (w.alloc (.cells #[.pointer none, .slice none 0 0] 67)).heap.size := by simp
    generalize w.alloc (.cells #[.pointer none, .slice none 0 0] 67) = w0 at *
    go_loopw [22] (fun v22 wr => ∃ (k : Nat) (T : List Nat), v22 = .int .i64 k ∧ k ≤ M ∧ Hid (T = lP (l.take k)) ∧ T.length ≤ 200000 * k ∧ Lib.IsBuilder 67 5 w.heap.size w.heap.size (bytesC T) wr ∧ Below w.heap.size w wr ∧ w.heap.size + 1 ≤ wr.heap.size) (fun v22 _ => M - (intOf v22).toNat)
    case atStart => exact ⟨0, [], rfl, Nat.zero_le _, rfl, Nat.zero_le _, hbld0, hbel0, hsz0⟩
    case round =>
      clear hbel0 hbld0 hsz0
      obtain ⟨k, T, rfl, hk, HTX, hTl, hT, hb, hsz⟩ := hrel
      obtain ⟨w1, e1⟩ : ∃ w1, w1 = wr := ⟨_, rfl⟩
      subst e1
      by_cases hkM : k < M
      · have lt1 : (k : Int) < (M : Int) := by omega
        obtain ⟨x, hx⟩ : ∃ x, l[k]? = some x := ⟨_, List.getElem?_eq_getElem (by rw [HN.out]; omega)⟩
        have hxm := List.mem_of_getElem? hx
        obtain ⟨b', o', A4, c4, hA, x0, x1, x2, x3, x4, hc4, hxc⟩ := instr_at H.out k x hx
        cases hA
        replace x0 := pw_cell_below hb x0
        replace x1 := pw_cell_below hb x1
        replace x2 := pw_cell_below hb x2
        replace x3 := pw_cell_below hb x3
        replace x4 := pw_cell_below hb x4
        have hin := HI.out x hxm
        have hcx := HCL.out x hxm
        have HXN := hidP hx
        clear hx hxm
        go_upto_region 7 with fail
        obtain ⟨xo, xa, xb, xn, xc⟩ := x
        dsimp only at x0 x1 x2 x3 x4 hc4 hxc hcx
        obtain ⟨m, hm⟩ : ∃ m, xc.length = m := ⟨_, rfl⟩
        simp only [hm]
        rw [hm] at x4 hc4 hxc hcx
        have hbx2 : Box w1.heap.size #[.int .i64 xo, .int .i64 xa, .int .i64 xb, .int .i64 xn, .slice A4 m c4] 37 (w1.alloc (.cells #[.int .i64 xo, .int .i64 xa, .int .i64 xb, .int .i64 xn, .slice A4 m c4] 37)) := heap_alloc_new w1 _
        have hb12 := bnew (brefl w1) (.cells #[.int .i64 xo, .int .i64 xa, .int .i64 xb, .int .i64 xn, .slice A4 m c4] 37)
        have hsz2 : (w1.alloc (.cells #[.int .i64 xo, .int .i64 xa, .int .i64 xb, .int .i64 xn, .slice A4 m c4] 37)).heap.size = w1.heap.size + 1 := by simp
        generalize w1.alloc (.cells #[.int .i64 xo, .int .i64 xa, .int .i64 xb, .int .i64 xn, .slice A4 m c4] 37) = w2 at *
        have hb2 := bstep hb hb12
        have hT2 := builder_below hT hb12
        have z0 := hbx2.cell 0
        have z1 := hbx2.cell 1
        have z2 := hbx2.cell 2
        have z3 := hbx2.cell 3
        simp only [List.getElem?_toArray, List.getElem?_cons_zero, List.getElem?_cons_succ] at z0 z1 z2 z3
        obtain ⟨hF1, hF2⟩ := formP_few formsL_few xo
        have hf := fun w' (hb' : Below w2.heap.size w2 w') => form_any forms_of xo w' ((he.bl.below hb2).below hb')
        obtain ⟨F, hF⟩ : ∃ F, formP formsL xo = F := ⟨_, rfl⟩
        rw [hF] at hF1 hF2
        simp only [hF] at hf
        have hwr := fun w' (hb' : Below w2.heap.size w2 w') => written_any hF2 (by omega) xa xb xn hin.2.2.2.1.1 hin.2.2.2.1.2 w' ((hp.below hb2).below hb')
        have hWl := wrP_len xa xb xn hin.2.2.2.1.1 hin.2.2.2.1.2 F 0
        obtain ⟨W, hW⟩ : ∃ W, wrP xa xb xn 0 F = W := ⟨_, rfl⟩
        rw [hW] at hWl
        have hW4 : W.length ≤ 84 := by omega
        simp only [hW] at hwr
        have hbs := fun w' (hb' : Below w2.heap.size w2 w') => bwrite_any w.heap.size w.heap.size (bytesC T) (strA W) w' (builder_below hT2 hb') (by rw [bytesC_len, strA_size]; omega) (by have := hb'.size; omega)
        have HCI := hidP hin.2.2.2.2
        have HF := hidP hF
        have HW := hidP hW
        have HFA := hidP hf
        have HWA := hidP hwr
        have HBA := hidP hbs
        have HBX2 := hidP hbx2
        have HT2 := hidP hT2
        clear hF hW hf hwr hbs hT hbx2 hT2 hF1 hF2 x0 x1 x2 x3 x4 hin
        go_region_held3 (fun w' => w'.cell? ⟨w1.heap.size, 0, none⟩ = some (.int .i64 xo) ∧ w'.cell? ⟨w1.heap.size, 1, none⟩ = some (.int .i64 xa) ∧ w'.cell? ⟨w1.heap.size, 2, none⟩ = some (.int .i64 xb) ∧ w'.cell? ⟨w1.heap.size, 3, none⟩ = some (.int .i64 xn))
          (first | exact ⟨z0, z1, z2, z3⟩ | exact ⟨pw_cell_below hb5 z0, pw_cell_below hb5 z1, pw_cell_below hb5 z2, pw_cell_below hb5 z3⟩ | exact ⟨pw_cell_below hb6 (pw_cell_below hb5 z0), pw_cell_below hb6 (pw_cell_below hb5 z1), pw_cell_below hb6 (pw_cell_below hb5 z2), pw_cell_below hb6 (pw_cell_below hb5 z3)⟩ | exact ⟨hbx7.cell 0, hbx7.cell 1, hbx7.cell 2, hbx7.cell 3⟩ | fail)
          (first | (go_at_call 41; refine (HFA.out _ (brefl w2).drew).mono ?_; rintro e w5 ⟨rfl, hb5⟩) | (go_at_call 40; refine (HWA.out _ (bstep (brefl w2).drew hb5)).mono ?_; rintro e w6 ⟨rfl, hb6⟩) | (go_at_call 39; refine (HBA.out _ (bstep (bstep (brefl w2).drew hb5) hb6)).mono ?_; rintro e w7 ⟨rfl, hT7, hb7, hk7⟩; have hbx7 := (HBX2.out.below (bstep (bstep (brefl w2).drew hb5) hb6)).nb hk7 (by omega) (by decide)) | fail)
        have hb8 := (bstep hb2 (bstep (bstep (brefl w2).drew hb5) hb6)).trans hb7
        have hsz8 : w.heap.size + 1 ≤ w7.heap.size := by have := hb5.size; have := hb6.size; have := hb7.size; have : w2.heap.size ≤ w2.drew.heap.size := Nat.le_refl _; omega
        obtain ⟨T1, hT1⟩ : ∃ T1, T ++ W = T1 := ⟨_, rfl⟩
        have hT1l : T1.length ≤ T.length + 84 := by rw [← hT1, List.length_append]; omega
        rw [strCells_strA, ← bytesC_app, hT1] at hT7
        have z4 := hbx7.cell 4
        simp only [List.getElem?_toArray, List.getElem?_cons_zero, List.getElem?_cons_succ] at z4
        have HT1 := hidP hT1
        have HXC := hidP hxc
        have tm2 : min (m : Int) 2000 = (m : Int) := by omega
        have HMM := hidP hm
        clear hT1 hm hxc z0 z1 z2 z3 hbx7 hk7 hb5 hb6 hb7
        go_wp2_with fail
        go_loopw [46] (fun v46 wr => ∃ (j : Nat) (S : List Nat), v46 = .int .i64 j ∧ j ≤ m ∧ Hid (S = T1 ++ (xc.take j).flatMap casP) ∧ S.length ≤ T1.length + 84 * j ∧ Lib.IsBuilder 67 5 w.heap.size w.heap.size (bytesC S) wr ∧ Below w.heap.size w wr ∧ w.heap.size + 1 ≤ wr.heap.size) (fun v46 _ => m - (intOf v46).toNat)
        case atStart => exact ⟨0, T1, rfl, Nat.zero_le _, by show _ = _; simp, by omega, hT7, hb8, hsz8⟩
        case round =>
          clear hT7 hb8 hsz8 hb12 hb2 hb hsz
          obtain ⟨j, S, rfl, hj, HS, hSl, hT, hb, hsz⟩ := hrel
          obtain ⟨w8, e8⟩ : ∃ w8, w8 = wr := ⟨_, rfl⟩
          subst e8
          by_cases hjm : j < m
          · have lt2 : (j : Int) < (m : Int) := by omega
            obtain ⟨y, hy⟩ : ∃ y, xc[j]? = some y := ⟨_, List.getElem?_eq_getElem (by rw [HMM.out]; omega)⟩
            obtain ⟨q, r, hA, y0, y1, y2, y3⟩ := case_at HXC.out j y hy
            subst hA
            replace y0 := pw_cell_below hb y0
            replace y1 := pw_cell_below hb y1
            replace y2 := pw_cell_below hb y2
            replace y3 := pw_cell_below hb y3
            have hci := HCI.out y (List.mem_of_getElem? hy)
            have HY := hidP hy
            obtain ⟨yk, yc, yr, yd⟩ := y
            dsimp only at y0 y1 y2 y3
            clear hy
            go_upto_region 11 with fail
            have hbx2 : Box w8.heap.size #[.int .i64 yk, .int .i64 yc, .int .i64 yr, .int .i64 yd] 39 (w8.alloc (.cells #[.int .i64 yk, .int .i64 yc, .int .i64 yr, .int .i64 yd] 39)) := heap_alloc_new w8 _
            have hb12 := bnew (brefl w8) (.cells #[.int .i64 yk, .int .i64 yc, .int .i64 yr, .int .i64 yd] 39)
            have hsz2 : (w8.alloc (.cells #[.int .i64 yk, .int .i64 yc, .int .i64 yr, .int .i64 yd] 39)).heap.size = w8.heap.size + 1 := by simp
            generalize w8.alloc (.cells #[.int .i64 yk, .int .i64 yc, .int .i64 yr, .int .i64 yd] 39) = w9 at *
            have hb2 := bstep hb hb12
            have hT2 := builder_below hT hb12
            have z0 := hbx2.cell 0
            have z1 := hbx2.cell 1
            have z2 := hbx2.cell 2
            have z3 := hbx2.cell 3
            simp only [List.getElem?_toArray, List.getElem?_cons_zero, List.getElem?_cons_succ] at z0 z1 z2 z3
            obtain ⟨hF1, hF2⟩ := formP_few casesL_few yk
            have hf := fun w' (hb' : Below w9.heap.size w9 w') => form_any cases_of yk w' ((he.bl.below hb2).below hb')
            obtain ⟨G, hG⟩ : ∃ G, formP casesL yk = G := ⟨_, rfl⟩
            rw [hG] at hF1 hF2
            simp only [hG] at hf
            have hwr := fun w' (hb' : Below w9.heap.size w9 w') => written_any hF2 (by omega) yc yr yd hci.2.2.2.1 hci.2.2.2.2 w' ((hp.below hb2).below hb')
            have hWl := wrP_len yc yr yd hci.2.2.2.1 hci.2.2.2.2 G 0
            obtain ⟨V, hV⟩ : ∃ V, wrP yc yr yd 0 G = V := ⟨_, rfl⟩
            rw [hV] at hWl
            have hV4 : V.length ≤ 84 := by omega
            simp only [hV] at hwr
            have hbs := fun w' (hb' : Below w9.heap.size w9 w') => bwrite_any w.heap.size w.heap.size (bytesC S) (strA V) w' (builder_below hT2 hb') (by rw [bytesC_len, strA_size]; omega) (by have := hb'.size; omega)
            have HG := hidP hG
            have HV := hidP hV
            have HFA := hidP hf
            have HWA := hidP hwr
            have HBA := hidP hbs
            have HBX2 := hidP hbx2
            clear hG hV hf hwr hbs hT hbx2 hT2 hF1 hF2 y0 y1 y2 y3 hci
            go_region_held3 (fun w' => w'.cell? ⟨w8.heap.size, 0, none⟩ = some (.int .i64 yk) ∧ w'.cell? ⟨w8.heap.size, 1, none⟩ = some (.int .i64 yc) ∧ w'.cell? ⟨w8.heap.size, 2, none⟩ = some (.int .i64 yr) ∧ w'.cell? ⟨w8.heap.size, 3, none⟩ = some (.int .i64 yd))
              (first | exact ⟨z0, z1, z2, z3⟩ | exact ⟨pw_cell_below hb5 z0, pw_cell_below hb5 z1, pw_cell_below hb5 z2, pw_cell_below hb5 z3⟩ | exact ⟨pw_cell_below hb6 (pw_cell_below hb5 z0), pw_cell_below hb6 (pw_cell_below hb5 z1), pw_cell_below hb6 (pw_cell_below hb5 z2), pw_cell_below hb6 (pw_cell_below hb5 z3)⟩ | exact ⟨hbx7.cell 0, hbx7.cell 1, hbx7.cell 2, hbx7.cell 3⟩ | fail)
              (first | (go_at_call 41; refine (HFA.out _ (brefl w9).drew).mono ?_; rintro e w10 ⟨rfl, hb5⟩) | (go_at_call 40; refine (HWA.out _ (bstep (brefl w9).drew hb5)).mono ?_; rintro e w11 ⟨rfl, hb6⟩) | (go_at_call 39; refine (HBA.out _ (bstep (bstep (brefl w9).drew hb5) hb6)).mono ?_; rintro e w12 ⟨rfl, hT7, hb7, hk7⟩; have hbx7 := (HBX2.out.below (bstep (bstep (brefl w9).drew hb5) hb6)).nb hk7 (by omega) (by decide)) | fail)
            have hb8 := (bstep hb2 (bstep (bstep (brefl w9).drew hb5) hb6)).trans hb7
            have hsz8 : w.heap.size + 1 ≤ w12.heap.size := by have := hb5.size; have := hb6.size; have := hb7.size; have : w9.heap.size ≤ w9.drew.heap.size := Nat.le_refl _; omega
            rw [strCells_strA, ← bytesC_app] at hT7
            have HS2 : Hid (S ++ V = T1 ++ (xc.take (j + 1)).flatMap casP) := by
              show _ = _
              rw [HS.out, List.take_add_one, HY.out, List.flatMap_append, ← HV.out, ← HG.out]
              simp [casP]
            have HSL : (S ++ V).length ≤ T1.length + 84 * (j + 1) := by rw [List.length_append]; omega
            clear hbx7 hk7 hb5 hb6 hb7 z0 z1 z2 z3
            go_wp2_with fail
            go_roundw
            case rel => exact ⟨j + 1, S ++ V, by go_num, by omega, HS2, HSL, hT7, hb8, hsz8⟩
            case measure => simp [intOf]; omega
          · have lt2 : ¬ (j : Int) < (m : Int) := by omega
            have hbr := brune_any w.heap.size w.heap.size (bytesC S) 10 (by omega) (by omega) w8 hT (by rw [bytesC_len]; omega) (by omega)
            have hj2 : j = m := by omega
            have HR2 : Hid (S ++ [10] = lP (l.take (k + 1))) := by
              show _ = _
              rw [HS.out, List.take_of_length_le (by rw [HMM.out]; omega), List.take_add_one, HXN.out, ← HT1.out, HTX.out]
              unfold lP
              rw [List.flatMap_append]
              simp [rP, HF.out, HW.out]
            have HBR := hidP hbr
            have hSl2 : (S ++ [10]).length ≤ 200000 * (k + 1) := by
              have h1 := HT1.out
              rw [List.length_append, List.length_singleton]
              have h2 : T1.length ≤ T.length + 84 := by rw [← h1, List.length_append]; omega
              omega
            clear hbr hT
            go_wp2_with fail
            refine HBR.out.mono ?_
            rintro e w13 ⟨⟨rn, rfl⟩, hT13, hb13, _⟩
            have e10 : Lib.runeCells 10 = bytesC [10] := runeCells_asc 10 (by omega)
            rw [e10, ← bytesC_app] at hT13
            have hb14 := hb.trans hb13
            have hsz14 : w.heap.size + 1 ≤ w13.heap.size := by have := hb13.size; omega
            go_wp2_with fail
            go_roundw
            case rel => exact ⟨k + 1, S ++ [10], by go_num, by omega, HR2, hSl2, hT13, hb14, hsz14⟩
            case measure => simp [intOf]; omega
      · have lt1 : ¬ (k : Int) < (M : Int) := by omega
        have HK := hidP (show k = min l.length 61 by rw [HN.out, HM.out]; omega)
        have hsz1 : w.heap.size ≤ w1.heap.size := by omega
        have hstr : Calls Tryd.prog 43 #[.pointer (some ⟨w.heap.size, 0, none⟩)] w1 fun e w' => e = .returned (.string (strA T)) ∧ Below w.heap.size w1 w' := Tryd.Builder_String_any w.heap.size w.heap.size (T.map UInt8.ofNat) w1 hT hsz1
        have hTs := strA_size T
        have HSTR := hidP hstr
        clear hstr hT
        go_wp2_with fail
        refine HSTR.out.mono ?_
        rintro e w2 ⟨rfl, hb2⟩
        have hB1 := hb.trans hb2
        have hT6 : T.length ≤ 1000000 := by have h1 := HLP.out; have h2 := lP_take l k; rw [← HTX.out] at h2; omega
        have hdec := decode_any (strA T) w2 (by omega) (he.below hB1)
        have HY := hidP (fun hD he => write_yes2 (l := l) (k := k) (T := T) HTX.out HK.out H0.out hD he)
        have HNO := hidP (fun hh => write_no2 (l := l) (k := k) (T := T) HTX.out HK.out H0.out hh)
        obtain ⟨⟨D, dt, de⟩, hD⟩ : ∃ D, decodeR (strA T) = D := ⟨_, rfl⟩
        have HYD := hidP (show de = 0 → l = D → R = (T, 0) from fun h1 h2 => by rw [← HR.out]; exact HY.out (by rw [hD]; exact h1) (by rw [hD]; exact h2))
        have HND := hidP (show ¬ (de = 0 ∧ l = D) → R = ([], 5) from fun h1 => by rw [← HR.out]; exact HNO.out (by rw [hD]; exact h1))
        rw [hD] at hdec
        unfold DecPost at hdec
        dsimp only at hdec
        have HDEC := hidP hdec
        clear hdec hD HY HNO HTX HK
        go_wp2_with fail
        refine HDEC.out.mono ?_
        rintro e w3 ⟨A2, c2, rfl, hv2, hb3⟩
        have hB2 := bstep hB1 hb3
        by_cases h1 : de = 0
        · have t1 : (de != 0) = false := by simp [h1]
          obtain ⟨A', c', hv, hle, hC⟩ := Kd.R_reads hv2
          cases hv
          have hins := eqFunc_any (some ⟨b, o, none⟩) A2 d c2 l D w3 (Kd.C_below H.out hB2) hC
          rw [HN.out] at hins
          obtain ⟨m, hm⟩ : ∃ m, D.length = m := ⟨_, rfl⟩
          rw [hm] at hins
          have HINS := hidP hins
          have H1 := hidP h1
          clear hv2 hC hle hins h1
          simp only [hm]
          clear hm
          obtain ⟨EQ, hEQ⟩ : ∃ EQ, decide (l = D) = EQ := ⟨_, rfl⟩
          have HIN2 := hidP (hEQ ▸ HINS.out)
          have HEQ := hidP hEQ
          clear hEQ HINS HDEC
          go_wp2_with fail
          refine HIN2.out.mono ?_
          rintro e w4 ⟨rfl, hb4⟩
          have hB3 := bstep hB2 hb4
          cases EQ
          · have hR : R = ([], 5) := HND.out (fun hh => by have := HEQ.out; rw [decide_eq_false_iff_not] at this; exact this hh.2)
            subst hR
            clear HYD HND
            go_wp2_with fail
            go_ret2
            exact ⟨rfl, hB3⟩
          · have hR : R = (T, 0) := HYD.out H1.out (of_decide_eq_true HEQ.out)
            subst hR
            clear HYD HND
            go_wp2_with fail
            go_ret2
            exact ⟨rfl, hB3⟩
        · have t1 : (de != 0) = true := by simp [h1]
          have hR : R = ([], 5) := HND.out (fun hh => h1 hh.1)
          subst hR
          clear HYD HND h1 hv2 HDEC
          go_wp2_with fail
          go_ret2
          exact ⟨rfl, hB2⟩
end Go.Proofs.YtoflhfiegfhkoaaDoor
