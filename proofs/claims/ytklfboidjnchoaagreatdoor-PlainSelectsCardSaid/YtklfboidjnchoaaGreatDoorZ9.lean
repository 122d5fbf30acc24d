/-
  Parts of the proof: PSpec, PInv, POk, PMem, TBase.
-/
import Derived.Lib.SliceRun
import Derived.Laws.IdiomCopy
import Derived.Test.YtklfboidjnchoaaGreatDoorZ1
namespace Go.Proofs.YtklfboidjnchoaaGreatDoor
open Go
set_option linter.unusedVariables false
set_option linter.unusedSimpArgs false
inductive PV where
  | num (n : Int)
  | ch (i : Nat)
  | bx (i : Nat)
  deriving DecidableEq
structure WaitD where
  g : Nat
  c : Nat
  x : Option PV
  reg : Int
  dest : Int
structure GorD where
  pc : Int
  regs : List PV
  waits : List Nat
structure ChanD where
  cap : Int
  closed : Bool
  held : List PV
  sends : List Nat
  takes : List Nat
structure EvP where
  kind : Int
  gor : Int
  val : Int
  ref : Bool
  deriving DecidableEq
structure EntD where
  kind : Int
  n : Int
  draw : Int
structure MachD where
  gors : List GorD
  chans : List ChanD
  boxes : List PV
  ws : List WaitD
  queue : List Nat
  globals : List PV
  now : Int
  timers : List (Int × Nat)
  events : List EvP
  outcome : Int
  steps : List Int
def waitZ : WaitD := ⟨0, 0, none, 0, 0⟩
def gorZ : GorD := ⟨0, [], []⟩
def chanZ : ChanD := ⟨0, false, [], [], []⟩
namespace MachD
def gorAt (m : MachD) (g : Nat) : GorD := m.gors.getD g gorZ
def chanAt (m : MachD) (c : Nat) : ChanD := m.chans.getD c chanZ
def waitAt (m : MachD) (w : Nat) : WaitD := m.ws.getD w waitZ
def setGor (m : MachD) (g : Nat) (x : GorD) : MachD := { m with gors := m.gors.set g x }
def setChan (m : MachD) (c : Nat) (x : ChanD) : MachD := { m with chans := m.chans.set c x }
def reg (m : MachD) (g : Nat) (r : Int) : PV := (m.gorAt g).regs.getD r.toNat (.num 0)
def setReg (m : MachD) (g : Nat) (r : Int) (x : PV) : MachD := m.setGor g { m.gorAt g with regs := (m.gorAt g).regs.set r.toNat x }
def setPc (m : MachD) (g : Nat) (pc : Int) : MachD := m.setGor g { m.gorAt g with pc := pc }
def incPc (m : MachD) (g : Nat) : MachD := m.setPc g ((m.gorAt g).pc + 1)
def add (m : MachD) (regs : List PV) (pc : Int) : MachD := { m with gors := m.gors ++ [⟨pc, regs, []⟩], queue := m.queue ++ [m.gors.length] }
def fin (m : MachD) (outcome id : Int) : MachD := { m with outcome := outcome, events := m.events ++ [⟨5, id, outcome, false⟩] }
def unlink1 (m : MachD) (y : Nat) : MachD :=
  let c := (m.waitAt y).c
  m.setChan c { m.chanAt c with sends := (m.chanAt c).sends.filter (· != y), takes := (m.chanAt c).takes.filter (· != y) }
def unlink (m : MachD) (l : List Nat) : MachD := l.foldl unlink1 m
def wake (m : MachD) (w : Nat) (x : PV) : MachD :=
  let wd := m.waitAt w
  let m1 := m.unlink (m.gorAt wd.g).waits
  let gd := m1.gorAt wd.g
  let m2 := m1.setGor wd.g ⟨wd.dest, if 0 ≤ wd.reg then gd.regs.set wd.reg.toNat x else gd.regs, []⟩
  { m2 with queue := m2.queue ++ [wd.g] }
def send (m : MachD) (c : Nat) (x : PV) : MachD × Int :=
  let ch := m.chanAt c
  if ch.closed then (m, 3)
  else match ch.takes with
    | w :: _ => (m.wake w x, 1)
    | [] => if (ch.held.length : Int) < ch.cap then (m.setChan c { ch with held := ch.held ++ [x] }, 1) else (m, 0)
def sender (m : MachD) (c : Nat) : MachD × PV :=
  match (m.chanAt c).sends with
  | w :: _ => (m.wake w (.num 0), ((m.waitAt w).x).getD (.num 0))
  | [] => (m, .num 0)
def take (m : MachD) (c : Nat) : MachD × PV × Int :=
  let ch := m.chanAt c
  match ch.held with
  | x :: r =>
    let m1 := m.setChan c { ch with held := r }
    match ch.sends with
    | [] => (m1, x, 1)
    | _ :: _ =>
      let s := m1.sender c
      (s.1.setChan c { s.1.chanAt c with held := (s.1.chanAt c).held ++ [s.2] }, x, 1)
  | [] => match ch.sends with
    | _ :: _ => let s := m.sender c; (s.1, s.2, 1)
    | [] => if ch.closed then (m, .num 0, 1) else (m, .num 0, 0)
def nothing : PV → Bool
  | .num n => n == 0
  | _ => false
def leave (m : MachD) (g : Nat) : MachD := { m with queue := m.queue.filter (· != g) }
def toR (m : MachD) (g : Nat) (r : Int) (x : PV) : MachD × Int :=
  match m.reg g r with
  | .num n => if n = 0 then (m, 0) else (m, 6)
  | .bx _ => (m, 6)
  | .ch c => m.send c x
def fromR (m : MachD) (g : Nat) (r into : Int) : MachD × Int :=
  match m.reg g r with
  | .num n => if n = 0 then (m, 0) else (m, 6)
  | .bx _ => (m, 6)
  | .ch c => let t := m.take c; if t.2.2 = 1 then (t.1.setReg g into t.2.1, t.2.2) else (t.1, t.2.2)
def wait1 (m : MachD) (g : Nat) (c : CaseD) : MachD :=
  match m.reg g c.ch with
  | .ch k =>
    let w := m.ws.length
    let m1 := { m with ws := m.ws ++ [if c.kind = 1 then (⟨g, k, some (m.reg g c.reg), -1, c.dest⟩ : WaitD) else ⟨g, k, none, c.reg, c.dest⟩] }
    let m2 := m1.setChan k (if c.kind = 1 then { m1.chanAt k with sends := (m1.chanAt k).sends ++ [w] } else { m1.chanAt k with takes := (m1.chanAt k).takes ++ [w] })
    m2.setGor g { m2.gorAt g with waits := (m2.gorAt g).waits ++ [w] }
  | _ => m
def waitAll (m : MachD) (g : Nat) (l : List CaseD) : MachD := (l.foldl (fun m c => m.wait1 g c) m).leave g
def doneC (m : MachD) (g : Nat) (c : CaseD) : MachD × Int := if c.kind = 1 then m.toR g c.ch (m.reg g c.reg) else m.fromR g c.ch c.reg
def settle (m : MachD) (g : Nat) (c : CaseD) (outcome : Int) : MachD := if outcome = 1 then m.setPc g c.dest else m.fin outcome g
def tryF : Nat → MachD → Nat → List CaseD → Nat → MachD × Bool
  | 0, m, _, _, _ => (m, false)
  | k + 1, m, g, real, i =>
    let c := real.getD (i % real.length) caseZ
    let d := m.doneC g c
    if d.2 ≠ 0 then (d.1.settle g c d.2, true) else tryF k d.1 g real (i + 1)
def choose (m : MachD) (g : Nat) (l : List CaseD) (draw : Int) : MachD :=
  let other := l.filter (·.kind == 3)
  let real := l.filter (·.kind != 3)
  let t := tryF real.length m g real ((max draw 0).toNat % real.length)
  if t.2 then t.1
  else match other with
    | o :: _ => t.1.setPc g o.dest
    | [] => t.1.waitAll g real
def shutF : Nat → MachD → Nat → MachD
  | 0, m, _ => m
  | k + 1, m, c => match (m.chanAt c).takes with
    | [] => m
    | w :: _ => shutF k (m.wake w (.num 0)) c
def shut (m : MachD) (g : Nat) (a : Int) : MachD :=
  match m.reg g a with
  | .num n => if n = 0 then m.fin 5 g else m.fin 6 g
  | .bx _ => m.fin 6 g
  | .ch c =>
    let ch := m.chanAt c
    if ch.closed then m.fin 4 g
    else match ch.sends with
      | _ :: _ => m.fin 3 g
      | [] => (shutF ch.takes.length (m.setChan c { ch with closed := true }) c).incPc g
def size (m : MachD) (g : Nat) (a b : Int) (of : ChanD → Int) : MachD :=
  match m.reg g a with
  | .num n => if n = 0 then (m.setReg g b (.num 0)).incPc g else m.fin 6 g
  | .bx _ => m.fin 6 g
  | .ch c => (m.setReg g b (.num (of (m.chanAt c)))).incPc g
def boxed (m : MachD) (g : Nat) (a : Int) (f : MachD → Nat → MachD) : MachD :=
  match m.reg g a with
  | .bx b => (f m b).incPc g
  | _ => m.fin 6 g
def addR (m : MachD) (g : Nat) (a b : Int) : MachD :=
  match m.reg g a, m.reg g b with
  | .num x, .num y => if x + y > 1099511627776 ∨ x + y < -1099511627776 then m.fin 7 g else (m.setReg g a (.num (x + y))).incPc g
  | _, _ => m.fin 6 g
def out (m : MachD) (g : Nat) (a : Int) : MachD :=
  ({ m with events := m.events ++ [match m.reg g a with | .num n => ⟨1, g, n, false⟩ | _ => ⟨1, g, 0, true⟩] } : MachD).incPc g
def after (m : MachD) (g : Nat) (a n : Int) : MachD :=
  let c := m.chans.length
  let k := m.timers.findIdx (fun t => decide (t.1 > m.now + n))
  (({ m with chans := m.chans ++ [⟨1, false, [], [], []⟩], timers := m.timers.take k ++ [(m.now + n, c)] ++ m.timers.drop k } : MachD).setReg g a (.ch c)).incPc g
def exit (m : MachD) (g : Nat) : MachD :=
  let m1 := ({ m with events := m.events ++ [⟨2, g, 0, false⟩] } : MachD).leave g
  if g = 0 then m1.fin 1 g else m1
def words (m : MachD) (g : Nat) (x : InstrD) : MachD :=
  let m1 := m.incPc g
  if x.op = 1 then m1.setReg g x.a (.num x.n)
  else if x.op = 2 then m1.setReg g x.a (m1.reg g x.b)
  else if x.op = 4 then ({ m1 with chans := m1.chans ++ [⟨x.n, false, [], [], []⟩] } : MachD).setReg g x.a (.ch m1.chans.length)
  else if x.op = 10 then m1.add (m1.gorAt g).regs x.n
  else if x.op = 11 then m1.setPc g x.n
  else if x.op = 12 then (if nothing (m1.reg g x.a) then m1.setPc g x.n else m1)
  else if x.op = 15 then ({ m1 with boxes := m1.boxes ++ [m1.reg g x.b] } : MachD).setReg g x.a (.bx m1.boxes.length)
  else if x.op = 18 then { m1 with globals := m1.globals.set x.n.toNat (m1.reg g x.a) }
  else if x.op = 19 then m1.setReg g x.a (m1.globals.getD x.n.toNat (.num 0))
  else m1
def doI (m : MachD) (g : Nat) (x : InstrD) (draw : Int) : MachD :=
  if x.op = 5 then m.choose g [⟨1, x.a, x.b, (m.gorAt g).pc + 1⟩] 0
  else if x.op = 6 then m.choose g [⟨2, x.a, x.b, (m.gorAt g).pc + 1⟩] 0
  else if x.op = 21 then m.choose g x.cases draw
  else if x.op = 7 then m.shut g x.a
  else if x.op = 8 then m.size g x.a x.b (fun c => (c.held.length : Int))
  else if x.op = 9 then m.size g x.a x.b (fun c => c.cap)
  else if x.op = 16 then m.boxed g x.a (fun m b => m.setReg g x.b (m.boxes.getD b (.num 0)))
  else if x.op = 17 then m.boxed g x.a (fun m b => { m with boxes := m.boxes.set b (m.reg g x.b) })
  else if x.op = 20 then m.boxed g x.a (fun m _ => m)
  else if x.op = 3 then m.addR g x.a x.b
  else if x.op = 13 then m.out g x.a
  else if x.op = 14 then m.after g x.a x.n
  else if x.op = 22 then m.exit g
  else m.words g x
def exitI : InstrD := ⟨22, 0, 0, 0, []⟩
def pick (l : List InstrD) (m : MachD) (n draw : Int) : MachD :=
  if m.queue.length = 0 then (if m.timers.length = 0 then m.fin 2 (-1) else m)
  else
    let g := m.queue.getD ((max n 0).toNat % m.queue.length) 0
    let x := if (m.gorAt g).pc < (l.length : Int) then l.getD (m.gorAt g).pc.toNat exitI else exitI
    ({ m with steps := m.steps ++ [(g : Int)] } : MachD).doI g x draw
def tickF : Nat → MachD → MachD
  | 0, m => m
  | k + 1, m => match m.timers with
    | [] => m
    | t :: r => if t.1 ≤ m.now then tickF k (({ m with timers := r } : MachD).send t.2 (.num t.1)).1 else m
def tick (m : MachD) (n : Int) : MachD :=
  if n < 0 ∨ n > 1000 then m else tickF m.timers.length { m with now := m.now + n }
def entry (l : List InstrD) (m : MachD) (e : EntD) : MachD :=
  if m.outcome ≠ 0 then m
  else if e.kind = 1 then m.pick l e.n e.draw
  else if e.kind = 2 then m.tick e.n
  else m
end MachD
def mach0 : MachD := ⟨[⟨0, List.replicate 6 (.num 0), []⟩], [], [], [], [0], List.replicate 4 (.num 0), 0, [], [], 0, []⟩
def runR (l : List InstrD) (s : List EntD) : MachD := s.foldl (MachD.entry l) mach0
end Go.Proofs.YtklfboidjnchoaaGreatDoor
namespace Go.Proofs.YtklfboidjnchoaaGreatDoor
open Go.RowKit Go.Proofs.YtklfboidjnchoaaGreatDoorW.PrintWords
set_option linter.unusedVariables false
set_option linter.unusedSimpArgs false
inductive Own where
  | mach
  | gor (i : Nat)
  | chan (i : Nat)
  | box (i : Nat)
  | wt (i : Nat)
  deriving DecidableEq
structure Lay where
  mb : Nat
  gA : Nat → Nat
  cA : Nat → Nat
  bA : Nat → Nat
  wA : Nat → Nat
abbrev at0 (b : Nat) : Value := .pointer (some ⟨b, 0, none⟩)
def encV (σ : Lay) : PV → Value
  | .num n => .iface 67 (.int .i64 n)
  | .ch i => .iface 102 (at0 (σ.cA i))
  | .bx i => .iface 127 (at0 (σ.bA i))
def encO (σ : Lay) : Option PV → Value
  | none => .nilIface
  | some x => encV σ x
abbrev Owns := Nat → Option Own
def CellsO (ow : Owns) (w : World) (b : Nat) (o : Own) (cs : Array Value) (t : TypeId) : Prop := w.heap[b]? = some (.cells cs t (0, 0)) ∧ ow b = some o
def RowO (B : Nat) (ow : Owns) (w : World) (o : Own) (e : TypeId) (size : Nat) (v : Value) (n : Nat) (xs : List Value) : Prop := w.ownsRow B e size v n xs ∧ ∀ b, v.ownBlock = some b → ow b = some o
def OwMore (w : World) (ow ow' : Owns) : Prop := ∀ b, b < w.heap.size → ow' b = ow b
theorem OwMore.refl (w : World) (ow : Owns) : OwMore w ow ow := fun _ _ => rfl
theorem OwMore.trans {w w' : World} {a b c : Owns} (h : OwMore w a b) (hz : w.heap.size ≤ w'.heap.size) (k : OwMore w' b c) : OwMore w a c := fun i hi => (k i (by omega)).trans (h i hi)
structure StepO (o : Own) (ow : Owns) (w : World) (ow' : Owns) (w' : World) : Prop where
  keep : Keep (fun b => ow b = some o) w w'
  more : OwMore w ow ow'
section
variable {B : Nat} {ow ow' : Owns} {w w' : World} {o p : Own}
theorem CellsO.step {b : Nat} {cs : Array Value} {t : TypeId} (h : CellsO ow w b p cs t) (hs : StepO o ow w ow' w') (hp : p ≠ o) : CellsO ow' w' b p cs t := by
  have hl := blk_lt h.1
  refine ⟨(hs.keep.block b hl ?_).trans h.1, (hs.more b hl).trans h.2⟩
  intro e
  rw [h.2] at e
  exact hp (Option.some.inj e)
theorem RowO.step {e : TypeId} {size n : Nat} {v : Value} {xs : List Value} (h : RowO B ow w p e size v n xs) (hs : StepO o ow w ow' w') (hp : p ≠ o) : RowO B ow' w' p e size v n xs := by
  refine ⟨owns_keep h.1 hs.keep (fun k hk e => ?_), fun b hb => ?_⟩
  · rw [h.2 k hk] at e
    exact hp (Option.some.inj e)
  · have hl := own_lt h.1 b hb
    exact (hs.more b hl).trans (h.2 b hb)
end
def gorCells (σ : Lay) (i : Nat) (g : GorD) (v : Value) : Array Value := (.int .i64 i :: .int .i64 g.pc :: (g.regs.map (encV σ) ++ [v])).toArray
def chanCells (c : ChanD) (h s t : Value) : Array Value := #[.int .i64 c.cap, .bool c.closed, h, s, t]
def waitCells (σ : Lay) (x : WaitD) : Array Value := #[at0 (σ.gA x.g), at0 (σ.cA x.c), encO σ x.x, .int .i64 x.reg, .int .i64 x.dest]
def wPtrs (σ : Lay) (l : List Nat) : List Value := l.map fun i => at0 (σ.wA i)
def gPtrs (σ : Lay) (l : List Nat) : List Value := l.map fun i => at0 (σ.gA i)
def evC (e : EvP) : List Value := [.int .i64 e.kind, .int .i64 e.gor, .int .i64 e.val, .bool e.ref]
def tmC (σ : Lay) (t : Int × Nat) : List Value := [.int .i64 t.1, at0 (σ.cA t.2)]
def GorIs (B : Nat) (σ : Lay) (ow : Owns) (w : World) (i : Nat) (g : GorD) : Prop :=
  g.regs.length = 6 ∧ ∃ v, CellsO ow w (σ.gA i) (.gor i) (gorCells σ i g v) 98 ∧ RowO B ow w (.gor i) 132 1 v g.waits.length (wPtrs σ g.waits)
def ChanIs (B : Nat) (σ : Lay) (ow : Owns) (w : World) (i : Nat) (c : ChanD) : Prop :=
  ∃ h s t, CellsO ow w (σ.cA i) (.chan i) (chanCells c h s t) 124 ∧ RowO B ow w (.chan i) 20 1 h c.held.length (c.held.map (encV σ)) ∧
    RowO B ow w (.chan i) 132 1 s c.sends.length (wPtrs σ c.sends) ∧ RowO B ow w (.chan i) 132 1 t c.takes.length (wPtrs σ c.takes) ∧ (∀ b, s.ownBlock = some b → t.ownBlock ≠ some b)
def BoxIs (σ : Lay) (ow : Owns) (w : World) (i : Nat) (x : PV) : Prop := CellsO ow w (σ.bA i) (.box i) #[encV σ x] 129
def WaitIs (σ : Lay) (ow : Owns) (w : World) (i : Nat) (x : WaitD) : Prop := CellsO ow w (σ.wA i) (.wt i) (waitCells σ x) 172
def MachIs (B : Nat) (P : Value) (σ : Lay) (ow : Owns) (w : World) (m : MachD) : Prop :=
  ∃ q tv ev sv G0 G1 G2 G3, m.globals = [G0, G1, G2, G3] ∧
    CellsO ow w σ.mb .mach #[P, q, encV σ G0, encV σ G1, encV σ G2, encV σ G3, .int .i64 m.now, tv, .int .i64 m.gors.length, ev, .int .i64 m.outcome, sv] 66 ∧
    RowO B ow w .mach 95 1 q m.queue.length (gPtrs σ m.queue) ∧ RowO B ow w .mach 104 2 tv m.timers.length (m.timers.flatMap (tmC σ)) ∧
    RowO B ow w .mach 41 4 ev m.events.length (m.events.flatMap evC) ∧ RowO B ow w .mach 3 1 sv m.steps.length (m.steps.map (Value.int .i64))
structure Inv (B : Nat) (P : Value) (σ : Lay) (ow : Owns) (m : MachD) (w : World) : Prop where
  mach : MachIs B P σ ow w m
  gor : ∀ i g, m.gors[i]? = some g → GorIs B σ ow w i g
  chan : ∀ i c, m.chans[i]? = some c → ChanIs B σ ow w i c
  box : ∀ i x, m.boxes[i]? = some x → BoxIs σ ow w i x
  wt : ∀ i x, m.ws[i]? = some x → WaitIs σ ow w i x
  base : ∀ b o, ow b = some o → B ≤ b
section
variable {B : Nat} {P : Value} {σ : Lay} {ow ow' : Owns} {w w' : World} {o : Own} {m : MachD}
theorem GorIs.step {i : Nat} {g : GorD} (h : GorIs B σ ow w i g) (hs : StepO o ow w ow' w') (hp : Own.gor i ≠ o) : GorIs B σ ow' w' i g := by
  obtain ⟨h0, v, h1, h2⟩ := h
  exact ⟨h0, v, h1.step hs hp, h2.step hs hp⟩
theorem ChanIs.step {i : Nat} {c : ChanD} (h : ChanIs B σ ow w i c) (hs : StepO o ow w ow' w') (hp : Own.chan i ≠ o) : ChanIs B σ ow' w' i c := by
  obtain ⟨a, b, c, h1, h2, h3, h4, h5⟩ := h
  exact ⟨a, b, c, h1.step hs hp, h2.step hs hp, h3.step hs hp, h4.step hs hp, h5⟩
theorem BoxIs.step {i : Nat} {x : PV} (h : BoxIs σ ow w i x) (hs : StepO o ow w ow' w') (hp : Own.box i ≠ o) : BoxIs σ ow' w' i x := CellsO.step h hs hp
theorem WaitIs.step {i : Nat} {x : WaitD} (h : WaitIs σ ow w i x) (hs : StepO o ow w ow' w') (hp : Own.wt i ≠ o) : WaitIs σ ow' w' i x := CellsO.step h hs hp
theorem MachIs.step (h : MachIs B P σ ow w m) (hs : StepO o ow w ow' w') (hp : Own.mach ≠ o) : MachIs B P σ ow' w' m := by
  obtain ⟨q, tv, ev, sv, G0, G1, G2, G3, h0, h1, h2, h3, h4, h5⟩ := h
  exact ⟨q, tv, ev, sv, G0, G1, G2, G3, h0, h1.step hs hp, h2.step hs hp, h3.step hs hp, h4.step hs hp, h5.step hs hp⟩
theorem Inv.setGor (h : Inv B P σ ow m w) {i : Nat} (hs : StepO (.gor i) ow w ow' w') (hb : ∀ b o, ow' b = some o → B ≤ b) {g : GorD} (hg : GorIs B σ ow' w' i g) : Inv B P σ ow' (m.setGor i g) w' where
  mach := by
    have := h.mach.step hs (by intro e; cases e)
    unfold MachIs MachD.setGor at *
    simpa using this
  gor := fun j x hj => by
    unfold MachD.setGor at hj
    by_cases e : j = i
    · subst e
      rw [List.getElem?_set] at hj
      split at hj
      · split at hj
        · obtain rfl := Option.some.inj hj; exact hg
        · cases hj
      · rename_i hh; exact absurd rfl hh
    · rw [List.getElem?_set_ne (fun hh => e hh.symm)] at hj
      exact (h.gor j x hj).step hs (by intro hh; injection hh with hh; exact e hh)
  chan := fun j x hj => (h.chan j x hj).step hs (by intro e; cases e)
  box := fun j x hj => (h.box j x hj).step hs (by intro e; cases e)
  wt := fun j x hj => (h.wt j x hj).step hs (by intro e; cases e)
  base := hb
theorem Inv.setChan (h : Inv B P σ ow m w) {i : Nat} (hs : StepO (.chan i) ow w ow' w') (hb : ∀ b o, ow' b = some o → B ≤ b) {c : ChanD} (hc : ChanIs B σ ow' w' i c) : Inv B P σ ow' (m.setChan i c) w' where
  mach := by
    have := h.mach.step hs (by intro e; cases e)
    unfold MachIs MachD.setChan at *
    simpa using this
  chan := fun j x hj => by
    unfold MachD.setChan at hj
    by_cases e : j = i
    · subst e
      rw [List.getElem?_set] at hj
      split at hj
      · split at hj
        · obtain rfl := Option.some.inj hj; exact hc
        · cases hj
      · rename_i hh; exact absurd rfl hh
    · rw [List.getElem?_set_ne (fun hh => e hh.symm)] at hj
      exact (h.chan j x hj).step hs (by intro hh; injection hh with hh; exact e hh)
  gor := fun j x hj => (h.gor j x hj).step hs (by intro e; cases e)
  box := fun j x hj => (h.box j x hj).step hs (by intro e; cases e)
  wt := fun j x hj => (h.wt j x hj).step hs (by intro e; cases e)
  base := hb
theorem Inv.setMach (h : Inv B P σ ow m w) (hs : StepO .mach ow w ow' w') (hb : ∀ b o, ow' b = some o → B ≤ b) {m' : MachD} (hg : m'.gors = m.gors) (hc : m'.chans = m.chans) (hx : m'.boxes = m.boxes) (hw : m'.ws = m.ws) (hm : MachIs B P σ ow' w' m') : Inv B P σ ow' m' w' where
  mach := hm
  gor := fun j x hj => (h.gor j x (hg ▸ hj)).step hs (by intro e; cases e)
  chan := fun j x hj => (h.chan j x (hc ▸ hj)).step hs (by intro e; cases e)
  box := fun j x hj => (h.box j x (hx ▸ hj)).step hs (by intro e; cases e)
  wt := fun j x hj => (h.wt j x (hw ▸ hj)).step hs (by intro e; cases e)
  base := hb
theorem Inv.setBox (h : Inv B P σ ow m w) {i : Nat} (hs : StepO (.box i) ow w ow' w') (hb : ∀ b o, ow' b = some o → B ≤ b) {y : PV} (hy : BoxIs σ ow' w' i y) : Inv B P σ ow' { m with boxes := m.boxes.set i y } w' where
  mach := by
    have := h.mach.step hs (by intro e; cases e)
    unfold MachIs at *
    simpa using this
  box := fun j x hj => by
    dsimp only at hj
    by_cases e : j = i
    · subst e
      rw [List.getElem?_set] at hj
      split at hj
      · split at hj
        · obtain rfl := Option.some.inj hj; exact hy
        · cases hj
      · rename_i hh; exact absurd rfl hh
    · rw [List.getElem?_set_ne (fun hh => e hh.symm)] at hj
      exact (h.box j x hj).step hs (by intro hh; injection hh with hh; exact e hh)
  gor := fun j x hj => (h.gor j x hj).step hs (by intro e; cases e)
  chan := fun j x hj => (h.chan j x hj).step hs (by intro e; cases e)
  wt := fun j x hj => (h.wt j x hj).step hs (by intro e; cases e)
  base := hb
theorem lt_of_some {α : Type} {l : List α} {i : Nat} {x : α} (h : l[i]? = some x) : i < l.length := (List.getElem?_eq_some_iff.1 h).1
theorem snoc_some {α : Type} {l : List α} {i : Nat} {x y : α} (h : (l ++ [y])[i]? = some x) : l[i]? = some x ∨ i = l.length ∧ x = y := by
  rcases Nat.lt_or_ge i l.length with hl | hl
  · rw [List.getElem?_append_left hl] at h; exact .inl h
  · have hi : i < (l ++ [y]).length := lt_of_some h
    rw [List.length_append, List.length_singleton] at hi
    obtain rfl : i = l.length := by omega
    rw [List.getElem?_append_right (Nat.le_refl _)] at h
    simp at h
    exact .inr ⟨rfl, h.symm⟩
theorem Inv.newChan (h : Inv B P σ ow m w) (hs : StepO (.chan m.chans.length) ow w ow' w') (hb : ∀ b o, ow' b = some o → B ≤ b) {c : ChanD} (hc : ChanIs B σ ow' w' m.chans.length c) : Inv B P σ ow' { m with chans := m.chans ++ [c] } w' where
  mach := by
    have := h.mach.step hs (by intro e; cases e)
    unfold MachIs at *
    simpa using this
  chan := fun j x hj => by
    rcases snoc_some hj with hj | ⟨rfl, rfl⟩
    · exact (h.chan j x hj).step hs (by intro hh; injection hh with hh; have := lt_of_some hj; omega)
    · exact hc
  gor := fun j x hj => (h.gor j x hj).step hs (by intro e; cases e)
  box := fun j x hj => (h.box j x hj).step hs (by intro e; cases e)
  wt := fun j x hj => (h.wt j x hj).step hs (by intro e; cases e)
  base := hb
theorem Inv.newBox (h : Inv B P σ ow m w) (hs : StepO (.box m.boxes.length) ow w ow' w') (hb : ∀ b o, ow' b = some o → B ≤ b) {y : PV} (hy : BoxIs σ ow' w' m.boxes.length y) : Inv B P σ ow' { m with boxes := m.boxes ++ [y] } w' where
  mach := by
    have := h.mach.step hs (by intro e; cases e)
    unfold MachIs at *
    simpa using this
  box := fun j x hj => by
    rcases snoc_some hj with hj | ⟨rfl, rfl⟩
    · exact (h.box j x hj).step hs (by intro hh; injection hh with hh; have := lt_of_some hj; omega)
    · exact hy
  gor := fun j x hj => (h.gor j x hj).step hs (by intro e; cases e)
  chan := fun j x hj => (h.chan j x hj).step hs (by intro e; cases e)
  wt := fun j x hj => (h.wt j x hj).step hs (by intro e; cases e)
  base := hb
theorem Inv.newWait (h : Inv B P σ ow m w) (hs : StepO (.wt m.ws.length) ow w ow' w') (hb : ∀ b o, ow' b = some o → B ≤ b) {y : WaitD} (hy : WaitIs σ ow' w' m.ws.length y) : Inv B P σ ow' { m with ws := m.ws ++ [y] } w' where
  mach := by
    have := h.mach.step hs (by intro e; cases e)
    unfold MachIs at *
    simpa using this
  wt := fun j x hj => by
    rcases snoc_some hj with hj | ⟨rfl, rfl⟩
    · exact (h.wt j x hj).step hs (by intro hh; injection hh with hh; have := lt_of_some hj; omega)
    · exact hy
  gor := fun j x hj => (h.gor j x hj).step hs (by intro e; cases e)
  chan := fun j x hj => (h.chan j x hj).step hs (by intro e; cases e)
  box := fun j x hj => (h.box j x hj).step hs (by intro e; cases e)
  base := hb
theorem Inv.newGor {ow2 : Owns} {w2 : World} (h : Inv B P σ ow m w) (hs : StepO (.gor m.gors.length) ow w ow' w') {g : GorD} (hg : GorIs B σ ow' w' m.gors.length g) (hs2 : StepO .mach ow' w' ow2 w2) (hb : ∀ b o, ow2 b = some o → B ≤ b)
    {m' : MachD} (hgg : m'.gors = m.gors ++ [g]) (hc : m'.chans = m.chans) (hx : m'.boxes = m.boxes) (hw : m'.ws = m.ws) (hm : MachIs B P σ ow2 w2 m') : Inv B P σ ow2 m' w2 where
  mach := hm
  gor := fun j x hj => by
    rw [hgg] at hj
    rcases snoc_some hj with hj | ⟨rfl, rfl⟩
    · exact ((h.gor j x hj).step hs (by intro hh; injection hh with hh; have := lt_of_some hj; omega)).step hs2 (by intro e; cases e)
    · exact hg.step hs2 (by intro e; cases e)
  chan := fun j x hj => ((h.chan j x (hc ▸ hj)).step hs (by intro e; cases e)).step hs2 (by intro e; cases e)
  box := fun j x hj => ((h.box j x (hx ▸ hj)).step hs (by intro e; cases e)).step hs2 (by intro e; cases e)
  wt := fun j x hj => ((h.wt j x (hw ▸ hj)).step hs (by intro e; cases e)).step hs2 (by intro e; cases e)
  base := hb
end
def okV (m : MachD) : PV → Prop
  | .num n => -1152921504606846976 ≤ n ∧ n ≤ 1152921504606846976
  | .ch i => i < m.chans.length
  | .bx i => i < m.boxes.length
def okO (m : MachD) : Option PV → Prop
  | none => True
  | some x => okV m x
structure Agree (m : MachD) (σ σ' : Lay) : Prop where
  mb : σ'.mb = σ.mb
  g : ∀ i, i < m.gors.length → σ'.gA i = σ.gA i
  c : ∀ i, i < m.chans.length → σ'.cA i = σ.cA i
  b : ∀ i, i < m.boxes.length → σ'.bA i = σ.bA i
  w : ∀ i, i < m.ws.length → σ'.wA i = σ.wA i
structure OkG (m : MachD) (i : Nat) (g : GorD) : Prop where
  regs : ∀ x ∈ g.regs, okV m x
  six : g.regs.length = 6
  pc : 0 ≤ g.pc ∧ g.pc ≤ 10000
  waits : ∀ k ∈ g.waits, ∃ x, m.ws[k]? = some x ∧ x.g = i
  few : g.waits.length ≤ m.ws.length
structure OkC (m : MachD) (i : Nat) (c : ChanD) : Prop where
  held : ∀ x ∈ c.held, okV m x
  sends : ∀ k ∈ c.sends, ∃ x g, m.ws[k]? = some x ∧ x.c = i ∧ x.x ≠ none ∧ m.gors[x.g]? = some g ∧ k ∈ g.waits
  takes : ∀ k ∈ c.takes, ∃ x g, m.ws[k]? = some x ∧ x.c = i ∧ m.gors[x.g]? = some g ∧ k ∈ g.waits
  fewS : c.sends.length ≤ m.ws.length
  fewT : c.takes.length ≤ m.ws.length
  cap : (c.held.length : Int) ≤ c.cap ∧ c.cap ≤ 10000
structure OkW (m : MachD) (x : WaitD) : Prop where
  g : x.g < m.gors.length
  c : x.c < m.chans.length
  val : okO m x.x
  reg : -1 ≤ x.reg ∧ x.reg < 6
  dest : 0 ≤ x.dest ∧ x.dest ≤ 10000
structure Ok (m : MachD) : Prop where
  gor : ∀ (i : Nat) (g : GorD), m.gors[i]? = some g → OkG m i g
  wt : ∀ (i : Nat) (x : WaitD), m.ws[i]? = some x → OkW m x
  chan : ∀ (i : Nat) (c : ChanD), m.chans[i]? = some c → OkC m i c
  queue : ∀ g ∈ m.queue, ∃ x, m.gors[g]? = some x ∧ x.waits = []
  nodup : m.queue.Nodup
  globals : m.globals.length = 4
  globs : ∀ x ∈ m.globals, okV m x
  boxes : ∀ x ∈ m.boxes, okV m x
  timers : ∀ t ∈ m.timers, t.2 < m.chans.length ∧ 0 ≤ t.1 ∧ t.1 ≤ 1000000000000
  fewT : m.timers.length ≤ m.chans.length
structure Fit (m : MachD) : Prop where
  gors : m.gors.length ≤ 1000000
  chans : m.chans.length ≤ 1000000
  boxes : m.boxes.length ≤ 1000000
  ws : m.ws.length ≤ 1000000
  events : m.events.length ≤ 1000000
  steps : m.steps.length ≤ 1000000
  now : 0 ≤ m.now ∧ m.now ≤ 1000000000
theorem encV_agree {m : MachD} {σ σ' : Lay} (ha : Agree m σ σ') {x : PV} (h : okV m x) : encV σ' x = encV σ x := by
  cases x with
  | num n => rfl
  | ch i => show Value.iface _ (at0 _) = Value.iface _ (at0 _); rw [ha.c i h]
  | bx i => show Value.iface _ (at0 _) = Value.iface _ (at0 _); rw [ha.b i h]
theorem encO_agree {m : MachD} {σ σ' : Lay} (ha : Agree m σ σ') {x : Option PV} (h : okO m x) : encO σ' x = encO σ x := by
  cases x with
  | none => rfl
  | some x => exact encV_agree ha h
theorem map_encV {m : MachD} {σ σ' : Lay} (ha : Agree m σ σ') {l : List PV} (h : ∀ x ∈ l, okV m x) : l.map (encV σ') = l.map (encV σ) := List.map_congr_left fun x hx => encV_agree ha (h x hx)
theorem wPtrs_agree {m : MachD} {σ σ' : Lay} (ha : Agree m σ σ') {l : List Nat} (h : ∀ k ∈ l, k < m.ws.length) : wPtrs σ' l = wPtrs σ l := List.map_congr_left fun k hk => by rw [ha.w k (h k hk)]
theorem okV_q {m : MachD} {Q : List Nat} {x : PV} (h : okV { m with queue := Q } x) : okV m x := by cases x <;> exact h
theorem okO_q {m : MachD} {Q : List Nat} {x : Option PV} (h : okO { m with queue := Q } x) : okO m x := by
  cases x with
  | none => trivial
  | some x => exact okV_q h
theorem OkG.regsM {m : MachD} {Q : List Nat} {i : Nat} {g : GorD} (h : OkG { m with queue := Q } i g) : ∀ x ∈ g.regs, okV m x := fun x hx => okV_q (h.regs x hx)
theorem Inv.agreeQ {B : Nat} {P : Value} {σ σ' : Lay} {ow : Owns} {m : MachD} {w : World} (h : Inv B P σ ow m w) {Q : List Nat} (ok : Ok { m with queue := Q }) (hq : ∀ g ∈ m.queue, g < m.gors.length) (ha : Agree m σ σ') : Inv B P σ' ow m w where
  mach := by
    obtain ⟨q, tv, ev, sv, G0, G1, G2, G3, h0, h1, h2, h3, h4, h5⟩ := h.mach
    have hgl : ∀ x ∈ m.globals, okV m x := fun x hx => okV_q (ok.globs x hx)
    rw [h0] at hgl
    refine ⟨q, tv, ev, sv, G0, G1, G2, G3, h0, ?_, ?_, ?_, h4, h5⟩
    · rw [encV_agree ha (hgl G0 (by simp)), encV_agree ha (hgl G1 (by simp)), encV_agree ha (hgl G2 (by simp)), encV_agree ha (hgl G3 (by simp)), ha.mb]
      exact h1
    · have : gPtrs σ' m.queue = gPtrs σ m.queue := List.map_congr_left fun g hg => by
        rw [ha.g g (hq g hg)]
      rw [this]; exact h2
    · have : m.timers.flatMap (tmC σ') = m.timers.flatMap (tmC σ) := by
        rw [List.flatMap_def, List.flatMap_def]
        congr 1
        exact List.map_congr_left fun t ht => by unfold tmC; rw [ha.c t.2 (ok.timers t ht).1]
      rw [this]; exact h3
  gor := fun i g hi => by
    obtain ⟨h0, v, h1, h2⟩ := h.gor i g hi
    refine ⟨h0, v, ?_, ?_⟩
    · unfold gorCells at *
      rw [map_encV ha (ok.gor i g hi).regsM, ha.g i (lt_of_some hi)]
      exact h1
    · rw [wPtrs_agree ha (fun k hk => by obtain ⟨x, hx, _⟩ := (ok.gor i g hi).waits k hk; exact lt_of_some hx)]
      exact h2
  chan := fun i c hi => by
    obtain ⟨a, b, d, h1, h2, h3, h4, h5⟩ := h.chan i c hi
    refine ⟨a, b, d, ?_, ?_, ?_, ?_, h5⟩
    · rw [ha.c i (lt_of_some hi)]; exact h1
    · rw [map_encV ha (ok.chan i c hi).held]; exact h2
    · rw [wPtrs_agree ha (fun k hk => by obtain ⟨x, g, hx, _⟩ := (ok.chan i c hi).sends k hk; exact lt_of_some hx)]; exact h3
    · rw [wPtrs_agree ha (fun k hk => by obtain ⟨x, g, hx, _⟩ := (ok.chan i c hi).takes k hk; exact lt_of_some hx)]; exact h4
  box := fun i x hi => by
    have hx := h.box i x hi
    unfold BoxIs at *
    rw [encV_agree ha (okV_q (ok.boxes x (List.mem_of_getElem? hi))), ha.b i (lt_of_some hi)]
    exact hx
  wt := fun i x hi => by
    have hx := h.wt i x hi
    have o := ok.wt i x hi
    unfold WaitIs waitCells at *
    rw [ha.w i (lt_of_some hi), ha.g _ o.g, ha.c _ o.c, encO_agree ha (okO_q o.val)]
    exact hx
  base := h.base
theorem Inv.agree {B : Nat} {P : Value} {σ σ' : Lay} {ow : Owns} {m : MachD} {w : World} (h : Inv B P σ ow m w) (ok : Ok m) (ha : Agree m σ σ') : Inv B P σ' ow m w :=
  h.agreeQ (Q := m.queue) ok (fun g hg => by obtain ⟨x, hx, _⟩ := ok.queue g hg; exact lt_of_some hx) ha
end Go.Proofs.YtklfboidjnchoaaGreatDoor
namespace Go.Proofs.YtklfboidjnchoaaGreatDoor
set_option linter.unusedVariables false
set_option linter.unusedSimpArgs false
theorem set_some {α : Type} {l : List α} {i j : Nat} {x y : α} (h : (l.set i y)[j]? = some x) : (j = i ∧ x = y ∧ i < l.length) ∨ (j ≠ i ∧ l[j]? = some x) := by
  by_cases e : j = i
  · subst e
    rw [List.getElem?_set] at h
    simp only [if_true] at h
    split at h
    · rename_i hl; exact .inl ⟨rfl, (Option.some.inj h).symm, hl⟩
    · cases h
  · rw [List.getElem?_set_ne (fun hh => e hh.symm)] at h
    exact .inr ⟨e, h⟩
theorem set_get {α : Type} {l : List α} {i : Nat} {y : α} (h : i < l.length) : (l.set i y)[i]? = some y := by rw [List.getElem?_set]; simp [h]
theorem set_ne {α : Type} {l : List α} {i j : Nat} {y : α} (h : j ≠ i) : (l.set i y)[j]? = l[j]? := List.getElem?_set_ne (fun e => h e.symm)
theorem mem_set {α : Type} {l : List α} {i : Nat} {x y : α} (h : x ∈ l.set i y) : x ∈ l ∨ x = y := by
  obtain ⟨j, hj⟩ := List.getElem?_of_mem h
  rcases set_some hj with ⟨_, h, _⟩ | ⟨_, h⟩
  · exact .inr h
  · exact .inl (List.mem_of_getElem? h)
theorem getD_some {α : Type} {l : List α} {i : Nat} {x d : α} (h : l[i]? = some x) : l.getD i d = x := by rw [List.getD_eq_getElem?_getD, h]; rfl
theorem some_lt {α : Type} {l : List α} {i : Nat} (h : i < l.length) : ∃ x, l[i]? = some x := ⟨_, List.getElem?_eq_getElem h⟩
structure More (m m' : MachD) : Prop where
  c : m.chans.length ≤ m'.chans.length
  b : m.boxes.length ≤ m'.boxes.length
  wl : m.ws.length ≤ m'.ws.length
  w : ∀ (k : Nat) (x : WaitD), m.ws[k]? = some x → m'.ws[k]? = some x
  g : ∀ (i : Nat) (g : GorD), m.gors[i]? = some g → ∃ g', m'.gors[i]? = some g' ∧ ∀ k ∈ g.waits, k ∈ g'.waits
section
variable {m m' : MachD}
theorem okV_more (h : m.chans.length ≤ m'.chans.length) (hb : m.boxes.length ≤ m'.boxes.length) {x : PV} (hx : okV m x) : okV m' x := by
  cases x with
  | num n => exact hx
  | ch i => exact Nat.lt_of_lt_of_le hx h
  | bx i => exact Nat.lt_of_lt_of_le hx hb
theorem okO_more (h : m.chans.length ≤ m'.chans.length) (hb : m.boxes.length ≤ m'.boxes.length) {x : Option PV} (hx : okO m x) : okO m' x := by
  cases x with
  | none => trivial
  | some x => exact okV_more h hb hx
theorem OkG.more {i : Nat} {g : GorD} (h : OkG m i g) (hm : More m m') : OkG m' i g :=
  ⟨fun x hx => okV_more hm.c hm.b (h.regs x hx), h.six, h.pc, fun k hk => by obtain ⟨x, h1, h2⟩ := h.waits k hk; exact ⟨x, hm.w k x h1, h2⟩, Nat.le_trans h.few hm.wl⟩
theorem OkW.more {x : WaitD} (h : OkW m x) (hm : More m m') : OkW m' x :=
  ⟨by obtain ⟨g, hg⟩ := some_lt h.g; obtain ⟨g', hg', _⟩ := hm.g _ _ hg; exact lt_of_some hg', Nat.lt_of_lt_of_le h.c hm.c, okO_more hm.c hm.b h.val, h.reg, h.dest⟩
theorem OkC.more {i : Nat} {c : ChanD} (h : OkC m i c) (hm : More m m') : OkC m' i c where
  held := fun x hx => okV_more hm.c hm.b (h.held x hx)
  sends := fun k hk => by
    obtain ⟨x, g, h1, h2, h3, h4, h5⟩ := h.sends k hk
    obtain ⟨g', h6, h7⟩ := hm.g _ _ h4
    exact ⟨x, g', hm.w k x h1, h2, h3, h6, h7 k h5⟩
  takes := fun k hk => by
    obtain ⟨x, g, h1, h2, h4, h5⟩ := h.takes k hk
    obtain ⟨g', h6, h7⟩ := hm.g _ _ h4
    exact ⟨x, g', hm.w k x h1, h2, h6, h7 k h5⟩
  fewS := Nat.le_trans h.fewS hm.wl
  fewT := Nat.le_trans h.fewT hm.wl
  cap := h.cap
theorem More.same (hc : m'.chans.length = m.chans.length) (hb : m'.boxes.length = m.boxes.length) (hw : m'.ws = m.ws) (hg : m'.gors = m.gors) : More m m' :=
  ⟨Nat.le_of_eq hc.symm, Nat.le_of_eq hb.symm, by rw [hw]; exact Nat.le_refl _, fun k x h => by rw [hw]; exact h, fun i g h => ⟨g, by rw [hg]; exact h, fun k h => h⟩⟩
theorem Ok.setGor (ok : Ok m) {i : Nat} {g g' : GorD} (hg : m.gors[i]? = some g) (h' : OkG m i g') (hw : g'.waits = g.waits) : Ok (m.setGor i g') := by
  have hm : More m (m.setGor i g') := ⟨Nat.le_refl _, Nat.le_refl _, Nat.le_refl _, fun _ _ h => h, fun j x hj => by
    by_cases e : j = i
    · subst e
      rw [hg] at hj
      obtain rfl := Option.some.inj hj
      exact ⟨g', set_get (lt_of_some hg), fun k hk => hw ▸ hk⟩
    · exact ⟨x, (set_ne e).trans hj, fun k hk => hk⟩⟩
  exact
  { gor := fun j x hj => by
      rcases set_some hj with ⟨rfl, rfl, _⟩ | ⟨_, hj⟩
      · exact h'.more hm
      · exact (ok.gor j x hj).more hm
    wt := fun j x hj => (ok.wt j x hj).more hm
    chan := fun j x hj => (ok.chan j x hj).more hm
    queue := fun j hj => by
      obtain ⟨x, hx, hx2⟩ := ok.queue j hj
      by_cases e : j = i
      · subst e
        rw [hg] at hx
        obtain rfl := Option.some.inj hx
        exact ⟨g', set_get (lt_of_some hg), hw.trans hx2⟩
      · exact ⟨x, (set_ne e).trans hx, hx2⟩
    nodup := ok.nodup
    globals := ok.globals
    globs := fun x hx => okV_more hm.c hm.b (ok.globs x hx)
    boxes := fun x hx => okV_more hm.c hm.b (ok.boxes x hx)
    timers := ok.timers
    fewT := ok.fewT }
theorem gorAt_some {g : Nat} {gd : GorD} (h : m.gors[g]? = some gd) : m.gorAt g = gd := getD_some h
theorem chanAt_some {c : Nat} {cd : ChanD} (h : m.chans[c]? = some cd) : m.chanAt c = cd := getD_some h
theorem waitAt_some {w : Nat} {wd : WaitD} (h : m.ws[w]? = some wd) : m.waitAt w = wd := getD_some h
theorem Ok.reg (ok : Ok m) {g : Nat} {gd : GorD} (h : m.gors[g]? = some gd) {r : Int} (h0 : 0 ≤ r) (h6 : r < 6) : gd.regs[r.toNat]? = some (m.reg g r) ∧ okV m (m.reg g r) := by
  have o := ok.gor g gd h
  obtain ⟨x, hx⟩ := some_lt (l := gd.regs) (i := r.toNat) (by rw [o.six]; omega)
  have e : m.reg g r = x := by unfold MachD.reg; rw [gorAt_some h]; exact getD_some hx
  rw [e]
  exact ⟨hx, o.regs x (List.mem_of_getElem? hx)⟩
theorem Ok.setReg (ok : Ok m) {g : Nat} {gd : GorD} (h : m.gors[g]? = some gd) (r : Int) {x : PV} (hx : okV m x) : Ok (m.setReg g r x) := by
  unfold MachD.setReg
  rw [gorAt_some h]
  have o := ok.gor g gd h
  exact ok.setGor h ⟨fun y hy => (mem_set hy).elim (o.regs y) (fun e => e ▸ hx), by rw [List.length_set]; exact o.six, o.pc, o.waits, o.few⟩ rfl
theorem Ok.setPc (ok : Ok m) {g : Nat} {gd : GorD} (h : m.gors[g]? = some gd) {pc : Int} (h0 : 0 ≤ pc) (h1 : pc ≤ 10000) : Ok (m.setPc g pc) := by
  unfold MachD.setPc
  rw [gorAt_some h]
  have o := ok.gor g gd h
  exact ok.setGor h ⟨o.regs, o.six, ⟨h0, h1⟩, o.waits, o.few⟩ rfl
theorem Ok.other (ok : Ok m) (hg : m'.gors = m.gors) (hc : m'.chans = m.chans) (hb : m'.boxes = m.boxes) (hw : m'.ws = m.ws) (hq : m'.queue = m.queue) (hgl : m'.globals = m.globals) (ht : m'.timers = m.timers) : Ok m' := by
  obtain ⟨a1, a2, a3, a4, a5, a6, a7, a8, a9, a10, a11⟩ := m
  obtain ⟨b1, b2, b3, b4, b5, b6, b7, b8, b9, b10, b11⟩ := m'
  dsimp only at hg hc hb hw hq hgl ht
  subst hg hc hb hw hq hgl ht
  exact ⟨fun i g h => let o := ok.gor i g h; ⟨fun x hx => okV_more (Nat.le_refl _) (Nat.le_refl _) (o.regs x hx), o.six, o.pc, o.waits, o.few⟩,
    fun i x h => let o := ok.wt i x h; ⟨o.g, o.c, okO_more (Nat.le_refl _) (Nat.le_refl _) o.val, o.reg, o.dest⟩,
    fun i c h => let o := ok.chan i c h; ⟨fun x hx => okV_more (Nat.le_refl _) (Nat.le_refl _) (o.held x hx), o.sends, o.takes, o.fewS, o.fewT, o.cap⟩,
    ok.queue, ok.nodup, ok.globals, fun x hx => okV_more (Nat.le_refl _) (Nat.le_refl _) (ok.globs x hx), fun x hx => okV_more (Nat.le_refl _) (Nat.le_refl _) (ok.boxes x hx), ok.timers, ok.fewT⟩
theorem Ok.fin (ok : Ok m) (o i : Int) : Ok (m.fin o i) := ok.other rfl rfl rfl rfl rfl rfl rfl
theorem Ok.setChan (ok : Ok m) {i : Nat} {c c' : ChanD} (hc : m.chans[i]? = some c) (hh : ∀ x ∈ c'.held, okV m x) (hs : c'.sends = c.sends) (ht : c'.takes = c.takes) (hcap : (c'.held.length : Int) ≤ c'.cap ∧ c'.cap ≤ 10000) : Ok (m.setChan i c') := by
  have o := ok.chan i c hc
  have hm : More m (m.setChan i c') := .same (by simp [MachD.setChan]) rfl rfl rfl
  exact
  { gor := fun j x hj => (ok.gor j x hj).more hm
    wt := fun j x hj => (ok.wt j x hj).more hm
    chan := fun j x hj => by
      rcases set_some hj with ⟨rfl, rfl, _⟩ | ⟨_, hj⟩
      · exact OkC.more (m := m) ⟨hh, by rw [hs]; exact o.sends, by rw [ht]; exact o.takes, by rw [hs]; exact o.fewS, by rw [ht]; exact o.fewT, hcap⟩ hm
      · exact (ok.chan j x hj).more hm
    queue := ok.queue
    nodup := ok.nodup
    globals := ok.globals
    globs := fun x hx => okV_more hm.c hm.b (ok.globs x hx)
    boxes := fun x hx => okV_more hm.c hm.b (ok.boxes x hx)
    timers := fun t ht => by have := ok.timers t ht; exact ⟨Nat.lt_of_lt_of_le this.1 hm.c, this.2⟩
    fewT := Nat.le_trans ok.fewT hm.c }
theorem unlink_same (l : List Nat) : ∀ m : MachD, (m.unlink l).gors = m.gors ∧ (m.unlink l).ws = m.ws ∧ (m.unlink l).boxes = m.boxes ∧ (m.unlink l).queue = m.queue ∧ (m.unlink l).globals = m.globals ∧ (m.unlink l).now = m.now ∧ (m.unlink l).timers = m.timers ∧
    (m.unlink l).events = m.events ∧ (m.unlink l).outcome = m.outcome ∧ (m.unlink l).steps = m.steps ∧ (m.unlink l).chans.length = m.chans.length := by
  induction l with
  | nil => intro m; exact ⟨rfl, rfl, rfl, rfl, rfl, rfl, rfl, rfl, rfl, rfl, rfl⟩
  | cons y l ih =>
    intro m
    have h := ih (m.unlink1 y)
    have e : m.unlink (y :: l) = (m.unlink1 y).unlink l := rfl
    rw [e]
    obtain ⟨h1, h2, h3, h4, h5, h6, h7, h8, h9, h10, h11⟩ := h
    exact ⟨h1, h2, h3, h4, h5, h6, h7, h8, h9, h10, h11.trans (by simp [MachD.unlink1, MachD.setChan])⟩
theorem unlink_snoc (m : MachD) (l : List Nat) (y : Nat) : m.unlink (l ++ [y]) = (m.unlink l).unlink1 y := by unfold MachD.unlink; rw [List.foldl_append]; rfl
structure Left (m : MachD) (l : List Nat) (i : Nat) (c c' : ChanD) : Prop where
  cap : c'.cap = c.cap
  closed : c'.closed = c.closed
  held : c'.held = c.held
  sends : ∀ k ∈ c'.sends, k ∈ c.sends ∧ (k ∈ l → (m.waitAt k).c ≠ i)
  takes : ∀ k ∈ c'.takes, k ∈ c.takes ∧ (k ∈ l → (m.waitAt k).c ≠ i)
  fewS : c'.sends.length ≤ c.sends.length
  fewT : c'.takes.length ≤ c.takes.length
theorem unlink_left (l : List Nat) : ∀ (m : MachD) (i : Nat) (c' : ChanD), (m.unlink l).chans[i]? = some c' → ∃ c, m.chans[i]? = some c ∧ Left m l i c c' := by
  induction l with
  | nil => intro m i c' h; exact ⟨c', h, rfl, rfl, rfl, fun k hk => ⟨hk, fun h => by cases h⟩, fun k hk => ⟨hk, fun h => by cases h⟩, Nat.le_refl _, Nat.le_refl _⟩
  | cons y l ih =>
    intro m i c' h
    obtain ⟨c1, h1, a1, a2, a3, a4, a5, a6, a7⟩ := ih (m.unlink1 y) i c' h
    have hw : ∀ k, (m.unlink1 y).waitAt k = m.waitAt k := fun k => rfl
    unfold MachD.unlink1 MachD.setChan at h1
    dsimp only at h1
    rcases set_some h1 with ⟨rfl, rfl, hl⟩ | ⟨hne, h1⟩
    · obtain ⟨c, hc⟩ := some_lt hl
      rw [chanAt_some hc] at a1 a2 a3 a4 a5 a6 a7
      dsimp only at a1 a2 a3 a4 a5 a6 a7
      refine ⟨c, hc, a1, a2, a3, fun k hk => ?_, fun k hk => ?_, Nat.le_trans a6 (List.length_filter_le _ _), Nat.le_trans a7 (List.length_filter_le _ _)⟩
      · obtain ⟨b1, b2⟩ := a4 k hk
        obtain ⟨b1, b3⟩ := List.mem_filter.1 b1
        refine ⟨b1, fun hin => ?_⟩
        rcases List.mem_cons.1 hin with rfl | hin
        · simp at b3
        · exact b2 hin
      · obtain ⟨b1, b2⟩ := a5 k hk
        obtain ⟨b1, b3⟩ := List.mem_filter.1 b1
        refine ⟨b1, fun hin => ?_⟩
        rcases List.mem_cons.1 hin with rfl | hin
        · simp at b3
        · exact b2 hin
    · refine ⟨c1, h1, a1, a2, a3, fun k hk => ?_, fun k hk => ?_, a6, a7⟩
      · obtain ⟨b1, b2⟩ := a4 k hk
        refine ⟨b1, fun hin => ?_⟩
        rcases List.mem_cons.1 hin with rfl | hin
        · exact fun e => hne e.symm
        · exact b2 hin
      · obtain ⟨b1, b2⟩ := a5 k hk
        refine ⟨b1, fun hin => ?_⟩
        rcases List.mem_cons.1 hin with rfl | hin
        · exact fun e => hne e.symm
        · exact b2 hin
structure Like (m m' : MachD) : Prop where
  gors : m'.gors.length = m.gors.length
  chans : m'.chans.length = m.chans.length
  boxes : m'.boxes = m.boxes
  ws : m'.ws = m.ws
  globals : m'.globals = m.globals
  now : m'.now = m.now
  timers : m'.timers = m.timers
  events : m'.events = m.events
  outcome : m'.outcome = m.outcome
  steps : m'.steps = m.steps
theorem Like.refl (m : MachD) : Like m m := ⟨rfl, rfl, rfl, rfl, rfl, rfl, rfl, rfl, rfl, rfl⟩
theorem Like.trans {m1 m2 m3 : MachD} (h : Like m1 m2) (k : Like m2 m3) : Like m1 m3 :=
  ⟨k.gors.trans h.gors, k.chans.trans h.chans, k.boxes.trans h.boxes, k.ws.trans h.ws, k.globals.trans h.globals, k.now.trans h.now, k.timers.trans h.timers, k.events.trans h.events, k.outcome.trans h.outcome, k.steps.trans h.steps⟩
theorem Like.fit (h : Like m m') (f : Fit m) : Fit m' :=
  ⟨by rw [h.gors]; exact f.gors, by rw [h.chans]; exact f.chans, by rw [h.boxes]; exact f.boxes, by rw [h.ws]; exact f.ws, by rw [h.events]; exact f.events, by rw [h.steps]; exact f.steps, by rw [h.now]; exact f.now⟩
theorem Like.okV (h : Like m m') {x : PV} (hx : okV m x) : okV m' x := okV_more (Nat.le_of_eq h.chans.symm) (Nat.le_of_eq (by rw [h.boxes])) hx
theorem like_setGor (i : Nat) (g : GorD) : Like m (m.setGor i g) := ⟨by simp [MachD.setGor], rfl, rfl, rfl, rfl, rfl, rfl, rfl, rfl, rfl⟩
theorem like_setReg (i : Nat) (r : Int) (x : PV) : Like m (m.setReg i r x) := like_setGor _ _
theorem like_setPc (i : Nat) (pc : Int) : Like m (m.setPc i pc) := like_setGor _ _
theorem like_setChan (i : Nat) (c : ChanD) : Like m (m.setChan i c) := ⟨rfl, by simp [MachD.setChan], rfl, rfl, rfl, rfl, rfl, rfl, rfl, rfl⟩
theorem like_wake (w : Nat) (x : PV) : Like m (m.wake w x) := by
  obtain ⟨h1, h2, h3, h4, h5, h6, h7, h8, h9, h10, h11⟩ := unlink_same (m.gorAt (m.waitAt w).g).waits m
  exact ⟨by simp [MachD.wake, MachD.setGor, h1], h11, h3, h2, h5, h6, h7, h8, h9, h10⟩
def Waits (m : MachD) (k : Nat) (wd : WaitD) (gd : GorD) : Prop := m.ws[k]? = some wd ∧ m.gors[wd.g]? = some gd ∧ k ∈ gd.waits
theorem wake_eq {k : Nat} {wd : WaitD} {gd : GorD} (h : Waits m k wd gd) (x : PV) : m.wake k x = { (m.unlink gd.waits).setGor wd.g ⟨wd.dest, if 0 ≤ wd.reg then gd.regs.set wd.reg.toNat x else gd.regs, []⟩ with queue := m.queue ++ [wd.g] } := by
  obtain ⟨h1, h2, _⟩ := h
  obtain ⟨e1, _, _, e4, _⟩ := unlink_same gd.waits m
  have hg : (m.unlink gd.waits).gors[wd.g]? = some gd := by rw [e1]; exact h2
  unfold MachD.wake
  simp only [waitAt_some h1, gorAt_some h2, gorAt_some hg]
  unfold MachD.setGor
  simp only [e4]
theorem Ok.wake (ok : Ok m) {k : Nat} {wd : WaitD} {gd : GorD} (h : Waits m k wd gd) {x : PV} (hx : okV m x) : Ok (m.wake k x) := by
  have hl : Like m (m.wake k x) := like_wake k x
  rw [wake_eq h] at hl ⊢
  obtain ⟨h1, h2, h3⟩ := h
  obtain ⟨e1, e2, e3, e4, e5, e6, e7, e8, e9, e10, e11⟩ := unlink_same gd.waits m
  have og := ok.gor _ _ h2
  have ow := ok.wt _ _ h1
  have hgl : wd.g < m.gors.length := lt_of_some h2
  have hgs : ∀ (j : Nat) (g : GorD), j ≠ wd.g → m.gors[j]? = some g → ((m.unlink gd.waits).gors.set wd.g ⟨wd.dest, if 0 ≤ wd.reg then gd.regs.set wd.reg.toNat x else gd.regs, []⟩)[j]? = some g := fun j g hj hg => by rw [set_ne hj, e1]; exact hg
  refine
  { gor := fun j g hj => ?_
    wt := fun j y hj => ?_
    chan := fun j c hj => ?_
    queue := fun j hj => ?_
    nodup := ?_
    globals := by show (m.unlink gd.waits).globals.length = 4; rw [e5]; exact ok.globals
    globs := fun y hy => hl.okV (ok.globs y (by rw [← e5]; exact hy))
    boxes := fun y hy => hl.okV (ok.boxes y (by rw [← e3]; exact hy))
    timers := fun t ht => by
      have := ok.timers t (by rw [← e7]; exact ht)
      exact ⟨by rw [hl.chans]; exact this.1, this.2⟩
    fewT := by rw [hl.timers, hl.chans]; exact ok.fewT }
  · have hj' : ((m.unlink gd.waits).gors.set wd.g ⟨wd.dest, if 0 ≤ wd.reg then gd.regs.set wd.reg.toNat x else gd.regs, []⟩)[j]? = some g := hj
    rcases set_some hj' with ⟨rfl, rfl, _⟩ | ⟨_, hj⟩
    · refine ⟨fun y hy => ?_, ?_, ow.dest, fun k hk => (by cases hk), Nat.zero_le _⟩
      · dsimp only at hy
        split at hy
        · exact (mem_set hy).elim (fun h => hl.okV (og.regs y h)) (fun e => hl.okV (e ▸ hx))
        · exact hl.okV (og.regs y hy)
      · dsimp only
        split
        · rw [List.length_set]; exact og.six
        · exact og.six
    · rw [e1] at hj
      have o := ok.gor j g hj
      exact ⟨fun y hy => hl.okV (o.regs y hy), o.six, o.pc, fun k hk => by obtain ⟨y, p, q⟩ := o.waits k hk; exact ⟨y, by rw [hl.ws]; exact p, q⟩, by rw [hl.ws]; exact o.few⟩
  · have o := ok.wt j y (by rw [← e2]; exact hj)
    exact ⟨by rw [hl.gors]; exact o.g, by rw [hl.chans]; exact o.c, okO_more (Nat.le_of_eq hl.chans.symm) (Nat.le_of_eq (by rw [hl.boxes])) o.val, o.reg, o.dest⟩
  · obtain ⟨c0, hc0, a1, a2, a3, a4, a5, a6, a7⟩ := unlink_left gd.waits m j c hj
    have o := ok.chan j c0 hc0
    refine ⟨fun y hy => hl.okV (o.held y (a3 ▸ hy)), fun q hq => ?_, fun q hq => ?_, by rw [hl.ws]; exact Nat.le_trans a6 o.fewS, by rw [hl.ws]; exact Nat.le_trans a7 o.fewT, by rw [a1, a3]; exact o.cap⟩
    · obtain ⟨b1, b2⟩ := a4 q hq
      obtain ⟨y, g, c1, c2, c3, c4, c5⟩ := o.sends q b1
      have hne : y.g ≠ wd.g := fun e => by
        rw [e, h2] at c4
        obtain rfl := Option.some.inj c4
        exact b2 c5 (by rw [waitAt_some c1]; exact c2)
      exact ⟨y, g, by rw [hl.ws]; exact c1, c2, c3, hgs _ _ hne c4, c5⟩
    · obtain ⟨b1, b2⟩ := a5 q hq
      obtain ⟨y, g, c1, c2, c4, c5⟩ := o.takes q b1
      have hne : y.g ≠ wd.g := fun e => by
        rw [e, h2] at c4
        obtain rfl := Option.some.inj c4
        exact b2 c5 (by rw [waitAt_some c1]; exact c2)
      exact ⟨y, g, by rw [hl.ws]; exact c1, c2, hgs _ _ hne c4, c5⟩
  · rcases List.mem_append.1 hj with hj | hj
    · obtain ⟨y, hy, hy2⟩ := ok.queue j hj
      have hne : j ≠ wd.g := fun e => by
        rw [e, h2] at hy
        obtain rfl := Option.some.inj hy
        rw [hy2] at h3
        cases h3
      exact ⟨y, hgs _ _ hne hy, hy2⟩
    · obtain rfl := List.mem_singleton.1 hj
      exact ⟨_, set_get (by rw [e1]; exact hgl), rfl⟩
  · show (m.queue ++ [wd.g]).Nodup
    rw [List.nodup_append]
    refine ⟨ok.nodup, by simp, fun a ha b hb e => ?_⟩
    obtain rfl := List.mem_singleton.1 hb
    subst e
    obtain ⟨y, hy, hy2⟩ := ok.queue _ ha
    rw [h2] at hy
    obtain rfl := Option.some.inj hy
    rw [hy2] at h3
    cases h3
theorem Ok.queueLen (ok : Ok m) : m.queue.length ≤ m.gors.length := by
  have h : m.queue.length ≤ (List.range m.gors.length).length := by
    refine ok.nodup.length_le_of_subset ?_
    intro a ha
    obtain ⟨x, hx, _⟩ := ok.queue a ha
    exact List.mem_range.2 (lt_of_some hx)
  simpa using h
theorem takes_waits (ok : Ok m) {c : Nat} {cd : ChanD} (hc : m.chans[c]? = some cd) {k : Nat} (hk : k ∈ cd.takes) : ∃ wd gd, Waits m k wd gd ∧ OkW m wd := by
  obtain ⟨x, g, h1, _, h3, h4⟩ := (ok.chan c cd hc).takes k hk
  exact ⟨x, g, ⟨h1, h3, h4⟩, ok.wt k x h1⟩
theorem sends_waits (ok : Ok m) {c : Nat} {cd : ChanD} (hc : m.chans[c]? = some cd) {k : Nat} (hk : k ∈ cd.sends) : ∃ wd gd y, Waits m k wd gd ∧ OkW m wd ∧ wd.x = some y ∧ okV m y := by
  obtain ⟨x, g, h1, _, h3, h4, h5⟩ := (ok.chan c cd hc).sends k hk
  have o := ok.wt k x h1
  obtain ⟨y, hy⟩ : ∃ y, x.x = some y := by
    cases hh : x.x with
    | none => exact absurd hh h3
    | some y => exact ⟨y, rfl⟩
  exact ⟨x, g, y, ⟨h1, h4, h5⟩, o, hy, by have := o.val; rw [hy] at this; exact this⟩
theorem ok_num0 : okV m (.num 0) := ⟨by omega, by omega⟩
theorem Ok.send (ok : Ok m) {c : Nat} {cd : ChanD} (hc : m.chans[c]? = some cd) {x : PV} (hx : okV m x) : Ok (m.send c x).1 ∧ Like m (m.send c x).1 := by
  have o := ok.chan c cd hc
  unfold MachD.send
  rw [chanAt_some hc]
  dsimp only
  split
  · exact ⟨ok, .refl m⟩
  · split
    · rename_i k r hk
      obtain ⟨wd, gd, hw, _⟩ := takes_waits ok hc (k := k) (by rw [hk]; exact List.mem_cons_self ..)
      exact ⟨ok.wake hw hx, like_wake _ _⟩
    · split
      · rename_i hlt
        refine ⟨ok.setChan hc (fun y hy => ?_) rfl rfl ⟨by rw [List.length_append]; simp; omega, o.cap.2⟩, like_setChan _ _⟩
        rcases List.mem_append.1 hy with h | h
        · exact o.held y h
        · obtain rfl := List.mem_singleton.1 h
          exact hx
      · exact ⟨ok, .refl m⟩
theorem Ok.sender (ok : Ok m) {c : Nat} {cd : ChanD} (hc : m.chans[c]? = some cd) {k : Nat} {r : List Nat} (hk : cd.sends = k :: r) :
    ∃ wd gd y, Waits m k wd gd ∧ wd.x = some y ∧ m.sender c = (m.wake k (.num 0), y) ∧ Ok (m.sender c).1 ∧ Like m (m.sender c).1 ∧ okV m y := by
  obtain ⟨wd, gd, y, hw, _, hy, hy2⟩ := sends_waits ok hc (k := k) (by rw [hk]; exact List.mem_cons_self ..)
  have e : m.sender c = (m.wake k (.num 0), y) := by
    unfold MachD.sender
    rw [chanAt_some hc, hk]
    dsimp only
    rw [waitAt_some hw.1, hy]
    rfl
  exact ⟨wd, gd, y, hw, hy, e, by rw [e]; exact ok.wake hw ok_num0, by rw [e]; exact like_wake _ _, hy2⟩
theorem Ok.take (ok : Ok m) {c : Nat} {cd : ChanD} (hc : m.chans[c]? = some cd) : Ok (m.take c).1 ∧ Like m (m.take c).1 ∧ okV m (m.take c).2.1 := by
  have o := ok.chan c cd hc
  unfold MachD.take
  rw [chanAt_some hc]
  dsimp only
  split
  · rename_i x r hx
    have hxo : okV m x := o.held x (by rw [hx]; exact List.mem_cons_self ..)
    have hro : ∀ y ∈ r, okV m y := fun y hy => o.held y (by rw [hx]; exact List.mem_cons_of_mem _ hy)
    have hlen : (r.length : Int) + 1 ≤ cd.cap := by have := o.cap.1; rw [hx] at this; simpa using this
    have ok1 : Ok (m.setChan c { cd with held := r }) := ok.setChan hc hro rfl rfl ⟨by show (r.length : Int) ≤ cd.cap; omega, o.cap.2⟩
    have l1 : Like m (m.setChan c { cd with held := r }) := like_setChan _ _
    split
    · exact ⟨ok1, l1, hxo⟩
    · rename_i k q hk
      have hc1 : (m.setChan c { cd with held := r }).chans[c]? = some { cd with held := r } := set_get (lt_of_some hc)
      obtain ⟨wd, gd, y, hw, hy, e, ok2, l2, hyo⟩ := ok1.sender hc1 (k := k) (r := q) hk
      rw [e] at ok2 l2 ⊢
      dsimp only at ok2 l2 ⊢
      obtain ⟨e1, e2, e3, e4, e5, e6, e7, e8, e9, e10, e11⟩ := unlink_same gd.waits (m.setChan c { cd with held := r })
      obtain ⟨c2, hc2⟩ := some_lt (l := ((m.setChan c { cd with held := r }).wake k (.num 0)).chans) (i := c) (by rw [l2.chans]; exact lt_of_some hc1)
      have hL : Left (m.setChan c { cd with held := r }) gd.waits c { cd with held := r } c2 := by
        rw [wake_eq hw] at hc2
        obtain ⟨c0, hc0, hL⟩ := unlink_left gd.waits _ c c2 hc2
        rw [hc1] at hc0
        obtain rfl := Option.some.inj hc0
        exact hL
      rw [chanAt_some hc2]
      refine ⟨ok2.setChan hc2 (fun z hz => ?_) rfl rfl ?_, (l1.trans l2).trans (like_setChan _ _), hxo⟩
      · rcases List.mem_append.1 hz with h | h
        · rw [hL.held] at h
          exact (l1.trans l2).okV (hro z h)
        · obtain rfl := List.mem_singleton.1 h
          exact l2.okV hyo
      · refine ⟨?_, by show c2.cap ≤ 10000; rw [hL.cap]; exact o.cap.2⟩
        show ((c2.held ++ [y]).length : Int) ≤ c2.cap
        rw [hL.cap, hL.held, List.length_append, List.length_singleton]
        push_cast
        exact hlen
  · split
    · rename_i k q hk
      obtain ⟨wd, gd, y, hw, hy, e, ok2, l2, hyo⟩ := ok.sender hc (k := k) (r := q) hk
      rw [e] at ok2 l2 ⊢
      exact ⟨ok2, l2, hyo⟩
    · split
      · exact ⟨ok, .refl m, ok_num0⟩
      · exact ⟨ok, .refl m, ok_num0⟩
theorem Ok.leave (ok : Ok m) (g : Nat) : Ok (m.leave g) := by
  have hm : More m (m.leave g) := .same rfl rfl rfl rfl
  exact
  { gor := fun j x hj => (ok.gor j x hj).more hm
    wt := fun j x hj => (ok.wt j x hj).more hm
    chan := fun j x hj => (ok.chan j x hj).more hm
    queue := fun j hj => ok.queue j (List.mem_filter.1 hj).1
    nodup := ok.nodup.sublist List.filter_sublist
    globals := ok.globals
    globs := fun x hx => okV_more hm.c hm.b (ok.globs x hx)
    boxes := fun x hx => okV_more hm.c hm.b (ok.boxes x hx)
    timers := ok.timers
    fewT := ok.fewT }
theorem Ok.newChan (ok : Ok m) {n : Int} (h0 : 0 ≤ n) (h1 : n ≤ 10000) : Ok { m with chans := m.chans ++ [⟨n, false, [], [], []⟩] } := by
  have hm : More m { m with chans := m.chans ++ [⟨n, false, [], [], []⟩] } := ⟨by simp, Nat.le_refl _, Nat.le_refl _, fun _ _ h => h, fun i g h => ⟨g, h, fun k h => h⟩⟩
  exact
  { gor := fun j x hj => (ok.gor j x hj).more hm
    wt := fun j x hj => (ok.wt j x hj).more hm
    chan := fun j x hj => by
      rcases snoc_some hj with hj | ⟨rfl, rfl⟩
      · exact (ok.chan j x hj).more hm
      · exact ⟨fun x hx => (by cases hx), fun x hx => (by cases hx), fun x hx => (by cases hx), Nat.zero_le _, Nat.zero_le _, h0, h1⟩
    queue := ok.queue
    nodup := ok.nodup
    globals := ok.globals
    globs := fun x hx => okV_more hm.c hm.b (ok.globs x hx)
    boxes := fun x hx => okV_more hm.c hm.b (ok.boxes x hx)
    timers := fun t ht => by have := ok.timers t ht; exact ⟨Nat.lt_of_lt_of_le this.1 hm.c, this.2⟩
    fewT := Nat.le_trans ok.fewT hm.c }
theorem Ok.newBox (ok : Ok m) {y : PV} (hy : okV m y) : Ok { m with boxes := m.boxes ++ [y] } := by
  have hm : More m { m with boxes := m.boxes ++ [y] } := ⟨Nat.le_refl _, by simp, Nat.le_refl _, fun _ _ h => h, fun i g h => ⟨g, h, fun k h => h⟩⟩
  exact
  { gor := fun j x hj => (ok.gor j x hj).more hm
    wt := fun j x hj => (ok.wt j x hj).more hm
    chan := fun j x hj => (ok.chan j x hj).more hm
    queue := ok.queue
    nodup := ok.nodup
    globals := ok.globals
    globs := fun x hx => okV_more hm.c hm.b (ok.globs x hx)
    boxes := fun x hx => by
      rcases List.mem_append.1 hx with h | h
      · exact okV_more hm.c hm.b (ok.boxes x h)
      · obtain rfl := List.mem_singleton.1 h
        exact okV_more hm.c hm.b hy
    timers := ok.timers
    fewT := ok.fewT }
theorem Ok.setBox (ok : Ok m) {y : PV} (hy : okV m y) (i : Nat) : Ok { m with boxes := m.boxes.set i y } := by
  have hm : More m { m with boxes := m.boxes.set i y } := ⟨Nat.le_refl _, by simp, Nat.le_refl _, fun _ _ h => h, fun i g h => ⟨g, h, fun k h => h⟩⟩
  exact
  { gor := fun j x hj => (ok.gor j x hj).more hm
    wt := fun j x hj => (ok.wt j x hj).more hm
    chan := fun j x hj => (ok.chan j x hj).more hm
    queue := ok.queue
    nodup := ok.nodup
    globals := ok.globals
    globs := fun x hx => okV_more hm.c hm.b (ok.globs x hx)
    boxes := fun x hx => (mem_set hx).elim (fun h => okV_more hm.c hm.b (ok.boxes x h)) (fun e => okV_more hm.c hm.b (e ▸ hy))
    timers := ok.timers
    fewT := ok.fewT }
theorem Ok.setGlob (ok : Ok m) {y : PV} (hy : okV m y) (i : Nat) : Ok { m with globals := m.globals.set i y } := by
  have hm : More m { m with globals := m.globals.set i y } := .same rfl rfl rfl rfl
  exact
  { gor := fun j x hj => (ok.gor j x hj).more hm
    wt := fun j x hj => (ok.wt j x hj).more hm
    chan := fun j x hj => (ok.chan j x hj).more hm
    queue := ok.queue
    nodup := ok.nodup
    globals := by show (m.globals.set i y).length = 4; rw [List.length_set]; exact ok.globals
    globs := fun x hx => (mem_set hx).elim (fun h => okV_more hm.c hm.b (ok.globs x h)) (fun e => okV_more hm.c hm.b (e ▸ hy))
    boxes := fun x hx => okV_more hm.c hm.b (ok.boxes x hx)
    timers := ok.timers
    fewT := ok.fewT }
theorem Ok.add (ok : Ok m) {regs : List PV} (hr : ∀ x ∈ regs, okV m x) (h6 : regs.length = 6) {pc : Int} (h0 : 0 ≤ pc) (h1 : pc ≤ 10000) : Ok (m.add regs pc) := by
  have hm : More m (m.add regs pc) := ⟨Nat.le_refl _, Nat.le_refl _, Nat.le_refl _, fun _ _ h => h, fun i g h => ⟨g, by show (m.gors ++ [_])[i]? = _; rw [List.getElem?_append_left (lt_of_some h)]; exact h, fun k h => h⟩⟩
  have hnew : (m.gors ++ [(⟨pc, regs, []⟩ : GorD)])[m.gors.length]? = some ⟨pc, regs, []⟩ := by rw [List.getElem?_append_right (Nat.le_refl _)]; simp
  exact
  { gor := fun j x hj => by
      rcases snoc_some hj with hj | ⟨rfl, rfl⟩
      · exact (ok.gor j x hj).more hm
      · exact ⟨fun x hx => okV_more hm.c hm.b (hr x hx), h6, ⟨h0, h1⟩, fun k hk => (by cases hk), Nat.zero_le _⟩
    wt := fun j x hj => (ok.wt j x hj).more hm
    chan := fun j x hj => (ok.chan j x hj).more hm
    queue := fun j hj => by
      rcases List.mem_append.1 hj with h | h
      · obtain ⟨x, hx, hx2⟩ := ok.queue j h
        exact ⟨x, by show (m.gors ++ [_])[j]? = _; rw [List.getElem?_append_left (lt_of_some hx)]; exact hx, hx2⟩
      · obtain rfl := List.mem_singleton.1 h
        exact ⟨_, hnew, rfl⟩
    nodup := by
      show (m.queue ++ [m.gors.length]).Nodup
      rw [List.nodup_append]
      refine ⟨ok.nodup, by simp, fun a ha b hb e => ?_⟩
      obtain rfl := List.mem_singleton.1 hb
      subst e
      obtain ⟨y, hy, hy2⟩ := ok.queue _ ha
      have := lt_of_some hy
      omega
    globals := ok.globals
    globs := fun x hx => okV_more hm.c hm.b (ok.globs x hx)
    boxes := fun x hx => okV_more hm.c hm.b (ok.boxes x hx)
    timers := ok.timers
    fewT := ok.fewT }
structure OkCase (c : CaseD) : Prop where
  ch : 0 ≤ c.ch ∧ c.ch < 6
  reg : 0 ≤ c.reg ∧ c.reg < 6
  dest : 0 ≤ c.dest ∧ c.dest ≤ 10000
def waitOf (m : MachD) (g k : Nat) (c : CaseD) : WaitD := if c.kind = 1 then (⟨g, k, some (m.reg g c.reg), -1, c.dest⟩ : WaitD) else ⟨g, k, none, c.reg, c.dest⟩
theorem wait1_eq {g k : Nat} {gd : GorD} {cd : ChanD} {c : CaseD} (hg : m.gors[g]? = some gd) (hk : m.chans[k]? = some cd) (hr : m.reg g c.ch = .ch k) :
    m.wait1 g c = { m with ws := m.ws ++ [waitOf m g k c], chans := m.chans.set k (if c.kind = 1 then { cd with sends := cd.sends ++ [m.ws.length] } else { cd with takes := cd.takes ++ [m.ws.length] }), gors := m.gors.set g ⟨gd.pc, gd.regs, gd.waits ++ [m.ws.length]⟩ } := by
  have h1 : m.chans.getD k chanZ = cd := getD_some hk
  have h2 : m.gors.getD g gorZ = gd := getD_some hg
  unfold MachD.wait1
  rw [hr]
  simp only [MachD.setChan, MachD.setGor, MachD.chanAt, MachD.gorAt, waitOf, h1, h2]
theorem Ok.wait1 (ok : Ok m) {g : Nat} {gd : GorD} (hg : m.gors[g]? = some gd) (hq : g ∉ m.queue) {c : CaseD} (hc : OkCase c) : Ok (m.wait1 g c) := by
  obtain ⟨_, hreg⟩ := ok.reg hg hc.ch.1 hc.ch.2
  cases hv : m.reg g c.ch with
  | num n => unfold MachD.wait1; rw [hv]; exact ok
  | bx n => unfold MachD.wait1; rw [hv]; exact ok
  | ch k =>
    rw [hv] at hreg
    obtain ⟨cd, hk⟩ := some_lt (l := m.chans) (i := k) hreg
    rw [wait1_eq hg hk hv]
    have hxr := (ok.reg hg hc.reg.1 hc.reg.2).2
    have hnew : ∀ y, (m.ws ++ [y])[m.ws.length]? = some y := fun y => by rw [List.getElem?_append_right (Nat.le_refl _)]; simp
    have hwg : (waitOf m g k c).g = g := by unfold waitOf; split <;> rfl
    have hwc : (waitOf m g k c).c = k := by unfold waitOf; split <;> rfl
    have hgn : (m.gors.set g ⟨gd.pc, gd.regs, gd.waits ++ [m.ws.length]⟩)[g]? = some ⟨gd.pc, gd.regs, gd.waits ++ [m.ws.length]⟩ := set_get (lt_of_some hg)
    generalize hM : ({ m with ws := m.ws ++ [waitOf m g k c], chans := m.chans.set k (if c.kind = 1 then { cd with sends := cd.sends ++ [m.ws.length] } else { cd with takes := cd.takes ++ [m.ws.length] }), gors := m.gors.set g ⟨gd.pc, gd.regs, gd.waits ++ [m.ws.length]⟩ } : MachD) = M
    have e1 : M.ws = m.ws ++ [waitOf m g k c] := by rw [← hM]
    have e2 : M.chans = m.chans.set k (if c.kind = 1 then { cd with sends := cd.sends ++ [m.ws.length] } else { cd with takes := cd.takes ++ [m.ws.length] }) := by rw [← hM]
    have e3 : M.gors = m.gors.set g ⟨gd.pc, gd.regs, gd.waits ++ [m.ws.length]⟩ := by rw [← hM]
    have e4 : M.queue = m.queue ∧ M.globals = m.globals ∧ M.boxes = m.boxes ∧ M.timers = m.timers := by rw [← hM]; exact ⟨rfl, rfl, rfl, rfl⟩
    obtain ⟨e4, e5, e6, e7⟩ := e4
    clear hM
    have hm : More m M := by
      refine ⟨by rw [e2, List.length_set]; exact Nat.le_refl _, by rw [e6]; exact Nat.le_refl _, by rw [e1, List.length_append]; omega, fun q x hx => by rw [e1, List.getElem?_append_left (lt_of_some hx)]; exact hx, fun j x hj => ?_⟩
      rw [e3]
      by_cases e : j = g
      · subst e
        rw [hg] at hj
        obtain rfl := Option.some.inj hj
        exact ⟨_, hgn, fun q hq => List.mem_append_left _ hq⟩
      · exact ⟨x, (set_ne e).trans hj, fun q hq => hq⟩
    have oc := ok.chan k cd hk
    have og := ok.gor g gd hg
    refine
    { gor := fun j x hj => ?_
      wt := fun j x hj => ?_
      chan := fun j x hj => ?_
      queue := fun j hj => ?_
      nodup := by rw [e4]; exact ok.nodup
      globals := by rw [e5]; exact ok.globals
      globs := fun x hx => okV_more hm.c hm.b (ok.globs x (by rw [← e5]; exact hx))
      boxes := fun x hx => okV_more hm.c hm.b (ok.boxes x (by rw [← e6]; exact hx))
      timers := fun t ht => by have := ok.timers t (by rw [← e7]; exact ht); exact ⟨Nat.lt_of_lt_of_le this.1 hm.c, this.2⟩
      fewT := by rw [e7]; exact Nat.le_trans ok.fewT hm.c }
    · rw [e3] at hj
      rcases set_some hj with ⟨rfl, rfl, _⟩ | ⟨_, hj⟩
      · refine ⟨fun y hy => okV_more hm.c hm.b (og.regs y hy), og.six, og.pc, fun q hq => ?_, ?_⟩
        · rcases List.mem_append.1 hq with h | h
          · obtain ⟨y, h1, h2⟩ := og.waits q h
            exact ⟨y, hm.w q y h1, h2⟩
          · obtain rfl := List.mem_singleton.1 h
            exact ⟨_, by rw [e1]; exact hnew _, hwg⟩
        · rw [e1, List.length_append, List.length_append]
          exact Nat.add_le_add_right og.few _
      · exact (ok.gor j x hj).more hm
    · rw [e1] at hj
      rcases snoc_some hj with hj | ⟨rfl, rfl⟩
      · exact (ok.wt j x hj).more hm
      · refine OkW.more (m := m) ⟨by rw [hwg]; exact lt_of_some hg, by rw [hwc]; exact hreg, ?_, ?_, ?_⟩ hm
        · unfold waitOf; split
          · exact hxr
          · trivial
        · unfold waitOf; split
          · exact ⟨by show (-1 : Int) ≤ -1; omega, by show (-1 : Int) < 6; omega⟩
          · exact ⟨by have := hc.reg; show -1 ≤ c.reg; omega, hc.reg.2⟩
        · unfold waitOf; split <;> exact hc.dest
    · rw [e2] at hj
      rcases set_some hj with ⟨rfl, rfl, _⟩ | ⟨_, hj⟩
      · have o2 := oc.more hm
        split
        · rename_i hkd
          refine ⟨o2.held, fun q hq => ?_, o2.takes, ?_, o2.fewT, o2.cap⟩
          · rcases List.mem_append.1 hq with h | h
            · exact o2.sends q h
            · obtain rfl := List.mem_singleton.1 h
              refine ⟨_, _, by rw [e1]; exact hnew _, hwc, by unfold waitOf; rw [if_pos hkd]; simp, by rw [e3, hwg]; exact hgn, List.mem_append_right _ (List.mem_singleton.2 rfl)⟩
          · show (cd.sends ++ [m.ws.length]).length ≤ M.ws.length
            rw [e1, List.length_append, List.length_append]
            exact Nat.add_le_add_right oc.fewS _
        · refine ⟨o2.held, o2.sends, fun q hq => ?_, o2.fewS, ?_, o2.cap⟩
          · rcases List.mem_append.1 hq with h | h
            · exact o2.takes q h
            · obtain rfl := List.mem_singleton.1 h
              exact ⟨_, _, by rw [e1]; exact hnew _, hwc, by rw [e3, hwg]; exact hgn, List.mem_append_right _ (List.mem_singleton.2 rfl)⟩
          · show (cd.takes ++ [m.ws.length]).length ≤ M.ws.length
            rw [e1, List.length_append, List.length_append]
            exact Nat.add_le_add_right oc.fewT _
      · exact (ok.chan j x hj).more hm
    · rw [e4] at hj
      obtain ⟨x, hx, hx2⟩ := ok.queue j hj
      have hne : j ≠ g := fun e => hq (e ▸ hj)
      exact ⟨x, by rw [e3]; exact (set_ne hne).trans hx, hx2⟩
end
end Go.Proofs.YtklfboidjnchoaaGreatDoor
namespace Go.Proofs.YtklfboidjnchoaaGreatDoor
open Go.RowKit Go.Proofs.YtklfboidjnchoaaGreatDoorW.PrintWords
set_option linter.unusedVariables false
set_option linter.unusedSimpArgs false
def frm (ow : Owns) (n : Nat) (x : Option Own) : Owns := fun b => if n ≤ b then x else ow b
theorem frm_lt {ow : Owns} {n b : Nat} {x : Option Own} (h : b < n) : frm ow n x b = ow b := by unfold frm; rw [if_neg (by omega)]
theorem frm_ge {ow : Owns} {n b : Nat} {x : Option Own} (h : n ≤ b) : frm ow n x b = x := by unfold frm; rw [if_pos h]
section
variable {B : Nat} {P : Value} {σ : Lay} {ow ow' : Owns} {w w' w1 w2 w3 : World} {o p : Own} {m m' : MachD}
theorem OwMore.frm (x : Option Own) : OwMore w ow (frm ow w.heap.size x) := fun b hb => frm_lt hb
theorem StepO.of (h : Keep (fun b => ow b = some o) w w') : StepO o ow w (frm ow w.heap.size (some o)) w' := ⟨h, .frm _⟩
theorem Inv.size (h : Inv B P σ ow m w) : B ≤ w.heap.size := by
  obtain ⟨q, tv, ev, sv, G0, G1, G2, G3, _, h1, _⟩ := h.mach
  exact Nat.le_of_lt (Nat.lt_of_le_of_lt (h.base _ _ h1.2) (blk_lt h1.1))
theorem Inv.frm_base (h : Inv B P σ ow m w) {x : Option Own} : ∀ b o, frm ow w.heap.size x b = some o → B ≤ b := by
  intro b o hb
  rcases Nat.lt_or_ge b w.heap.size with hl | hl
  · rw [frm_lt hl] at hb; exact h.base b o hb
  · have := h.size; omega
theorem Inv.keep (h : Inv B P σ ow m w) (hk : Keep (fun b => ow b = none ∧ b < w.heap.size) w w') (hm : OwMore w ow ow') (hb : ∀ b o, ow' b = some o → B ≤ b) : Inv B P σ ow' m w' := by
  have hcell : ∀ {b : Nat} {o : Own} {cs : Array Value} {t : TypeId}, CellsO ow w b o cs t → CellsO ow' w' b o cs t := fun {b o cs t} hc => by
    have hl := blk_lt hc.1
    exact ⟨(hk.block b hl (fun e => by rw [hc.2] at e; cases e.1)).trans hc.1, (hm b hl).trans hc.2⟩
  have hrow : ∀ {o : Own} {e : TypeId} {size n : Nat} {v : Value} {xs : List Value}, RowO B ow w o e size v n xs → RowO B ow' w' o e size v n xs := fun {o e size n v xs} hr =>
    ⟨owns_keep hr.1 hk (fun k hk' e => by rw [hr.2 k hk'] at e; cases e.1), fun b hb => (hm b (own_lt hr.1 b hb)).trans (hr.2 b hb)⟩
  refine ⟨?_, fun i g hi => ?_, fun i c hi => ?_, fun i x hi => hcell (h.box i x hi), fun i x hi => hcell (h.wt i x hi), hb⟩
  · obtain ⟨q, tv, ev, sv, G0, G1, G2, G3, h0, h1, h2, h3, h4, h5⟩ := h.mach
    exact ⟨q, tv, ev, sv, G0, G1, G2, G3, h0, hcell h1, hrow h2, hrow h3, hrow h4, hrow h5⟩
  · obtain ⟨h0, v, h1, h2⟩ := h.gor i g hi
    exact ⟨h0, v, hcell h1, hrow h2⟩
  · obtain ⟨a, b, c, h1, h2, h3, h4, h5⟩ := h.chan i c hi
    exact ⟨a, b, c, hcell h1, hrow h2, hrow h3, hrow h4, h5⟩
theorem Inv.below (h : Inv B P σ ow m w) (hb : Below w.heap.size w w') (x : Option Own := none) : Inv B P σ (frm ow w.heap.size x) m w' :=
  h.keep (.of_below hb) (.frm _) h.frm_base
def Res (B : Nat) (P : Value) (σ : Lay) (ow : Owns) (m' : MachD) (w w' : World) : Prop :=
  ∃ ow', Inv B P σ ow' m' w' ∧ Keep (fun b => ow b ≠ none) w w' ∧ OwMore w ow ow'
theorem Res.trans {m1 : MachD} (h : Keep (fun b => ow b ≠ none) w w1) (hm : OwMore w ow ow') (k : Res B P σ ow' m1 w1 w2) : Res B P σ ow m1 w w2 := by
  obtain ⟨ow2, h1, h2, h3⟩ := k
  exact ⟨ow2, h1, h.then h2 (fun i hi e => by rw [hm i hi] at e; exact e), hm.trans h.size h3⟩
theorem Res.of_below (hb : Below w.heap.size w w1) (x : Option Own) (k : Res B P σ (frm ow w.heap.size x) m' w1 w2) : Res B P σ ow m' w w2 := Res.trans (.of_below hb) (.frm x) k
theorem Res.below (k : Res B P σ ow m' w w1) (hb : Below w1.heap.size w1 w2) : Res B P σ ow m' w w2 := by
  obtain ⟨ow1, h1, h2, h3⟩ := k
  exact ⟨_, h1.below hb, h2.trans (.of_below hb), h3.trans h2.size (.frm none)⟩
theorem Inv.res_below (h : Inv B P σ ow m w) (hb : Below w.heap.size w w') : Res B P σ ow m w w' := ⟨_, h.below hb, .of_below hb, .frm none⟩
theorem CellsO.other {b c : Nat} {cs ds : Array Value} {t u : TypeId} (h : CellsO ow w b o cs t) (k : CellsO ow w c p ds u) (hne : o ≠ p) : b ≠ c := by
  intro e
  subst e
  have := h.2.symm.trans k.2
  exact hne (Option.some.inj this)
theorem RowO.row_ne {e : TypeId} {size n : Nat} {v : Value} {xs : List Value} {b : Nat} {cs : Array Value} {t : TypeId} (h : RowO B ow w o e size v n xs) (hb : w.heap[b]? = some (.cells cs t (0, 0))) (hne : e ≠ t) : v.ownBlock ≠ some b := by
  intro hv
  rcases h.1.2 with ⟨rfl, _⟩ | ⟨g, cap, cur, rfl, _, hg, _⟩
  · cases hv
  · cases hv
    rw [hg] at hb
    cases hb
    exact hne rfl
theorem RowO.rows_ne {e f : TypeId} {size size' n n' : Nat} {v u : Value} {xs ys : List Value} (h : RowO B ow w o e size v n xs) (k : RowO B ow w p f size' u n' ys) (hne : e ≠ f) : ∀ b, u.ownBlock = some b → v.ownBlock ≠ some b := by
  intro b hb
  rcases k.1.2 with ⟨rfl, _⟩ | ⟨g, cap, cur, rfl, _, hg, _⟩
  · cases hb
  · cases hb
    exact h.row_ne hg hne
theorem RowO.stay {e : TypeId} {size n : Nat} {v : Value} {xs : List Value} {S : Nat → Prop} (h : RowO B ow w o e size v n xs) (hk : Keep S w w') (hs : ∀ b, v.ownBlock = some b → ¬ S b) (hm : OwMore w ow ow') : RowO B ow' w' o e size v n xs :=
  ⟨owns_keep h.1 hk hs, fun b hb => (hm b (own_lt h.1 b hb)).trans (h.2 b hb)⟩
theorem RowO.anew {e : TypeId} {size n : Nat} {v : Value} {xs : List Value} (ho : w'.ownsRow B e size v n xs) (hn : ∀ b, v.ownBlock = some b → (b < w.heap.size ∧ ow b = some o) ∨ w.heap.size ≤ b) : RowO B (Go.Proofs.YtklfboidjnchoaaGreatDoor.frm ow w.heap.size (some o)) w' o e size v n xs :=
  ⟨ho, fun b hb => (hn b hb).elim (fun h => (frm_lt h.1).trans h.2) (fun h => frm_ge h)⟩
theorem CellsO.anew {b : Nat} {cs ds : Array Value} {t : TypeId} (h : CellsO ow w b o ds t) (hb : w'.heap[b]? = some (.cells cs t (0, 0))) : CellsO (Go.Proofs.YtklfboidjnchoaaGreatDoor.frm ow w.heap.size (some o)) w' b o cs t :=
  ⟨hb, (frm_lt (blk_lt h.1)).trans h.2⟩
theorem Inv.gor_put (h : Inv B P σ ow m w) {i : Nat} {g g' : GorD} (hg : m.gors[i]? = some g) (h6 : g'.regs.length = 6) (hk : Keep (fun b => ow b = some (.gor i)) w w') {v : Value} (hc : w'.heap[σ.gA i]? = some (.cells (gorCells σ i g' v) 98 (0, 0)))
    (hr : RowO B (frm ow w.heap.size (some (.gor i))) w' (.gor i) 132 1 v g'.waits.length (wPtrs σ g'.waits)) : Res B P σ ow (m.setGor i g') w w' := by
  obtain ⟨_, u, hu, _⟩ := h.gor i g hg
  exact ⟨_, h.setGor (.of hk) h.frm_base ⟨h6, v, hu.anew hc, hr⟩, hk.mono (fun b _ e => by rw [e]; simp), .frm _⟩
theorem Inv.gor_set (h : Inv B P σ ow m w) {i : Nat} {g g' : GorD} (hg : m.gors[i]? = some g) (h6 : g'.regs.length = 6) (hw : g'.waits = g.waits) (hk : Keep (fun b => b = σ.gA i) w w')
    (hc : ∀ v, w.heap[σ.gA i]? = some (.cells (gorCells σ i g v) 98 (0, 0)) → w'.heap[σ.gA i]? = some (.cells (gorCells σ i g' v) 98 (0, 0))) : Res B P σ ow (m.setGor i g') w w' := by
  obtain ⟨_, u, hu, hr⟩ := h.gor i g hg
  refine h.gor_put hg h6 (hk.mono (fun b _ e => by rw [e]; exact hu.2)) (hc u hu.1) ?_
  rw [hw]
  exact hr.stay hk (fun b hb e => hr.row_ne hu.1 (by decide) (by rw [hb, e])) (.frm _)
theorem Inv.chan_put (h : Inv B P σ ow m w) {i : Nat} {c c' : ChanD} (hc : m.chans[i]? = some c) (hk : Keep (fun b => ow b = some (.chan i)) w w') {hv sv tv : Value} (hcell : w'.heap[σ.cA i]? = some (.cells (chanCells c' hv sv tv) 124 (0, 0)))
    (r1 : RowO B (frm ow w.heap.size (some (.chan i))) w' (.chan i) 20 1 hv c'.held.length (c'.held.map (encV σ))) (r2 : RowO B (frm ow w.heap.size (some (.chan i))) w' (.chan i) 132 1 sv c'.sends.length (wPtrs σ c'.sends))
    (r3 : RowO B (frm ow w.heap.size (some (.chan i))) w' (.chan i) 132 1 tv c'.takes.length (wPtrs σ c'.takes)) (hne : ∀ b, sv.ownBlock = some b → tv.ownBlock ≠ some b) : Res B P σ ow (m.setChan i c') w w' := by
  obtain ⟨a, b, d, h1, _⟩ := h.chan i c hc
  exact ⟨_, h.setChan (.of hk) h.frm_base ⟨hv, sv, tv, h1.anew hcell, r1, r2, r3, hne⟩, hk.mono (fun b _ e => by rw [e]; simp), .frm _⟩
structure MachC (B : Nat) (P : Value) (σ : Lay) (ow : Owns) (w : World) (m : MachD) (q tv ev sv : Value) (G0 G1 G2 G3 : PV) : Prop where
  gl : m.globals = [G0, G1, G2, G3]
  cells : CellsO ow w σ.mb .mach #[P, q, encV σ G0, encV σ G1, encV σ G2, encV σ G3, .int .i64 m.now, tv, .int .i64 m.gors.length, ev, .int .i64 m.outcome, sv] 66
  queue : RowO B ow w .mach 95 1 q m.queue.length (gPtrs σ m.queue)
  timers : RowO B ow w .mach 104 2 tv m.timers.length (m.timers.flatMap (tmC σ))
  events : RowO B ow w .mach 41 4 ev m.events.length (m.events.flatMap evC)
  steps : RowO B ow w .mach 3 1 sv m.steps.length (m.steps.map (Value.int .i64))
theorem MachIs.open (h : MachIs B P σ ow w m) : ∃ q tv ev sv G0 G1 G2 G3, MachC B P σ ow w m q tv ev sv G0 G1 G2 G3 := by
  obtain ⟨q, tv, ev, sv, G0, G1, G2, G3, h0, h1, h2, h3, h4, h5⟩ := h
  exact ⟨q, tv, ev, sv, G0, G1, G2, G3, h0, h1, h2, h3, h4, h5⟩
theorem Inv.mach_put (h : Inv B P σ ow m w) {q tv ev sv q' tv' ev' sv' : Value} {G0 G1 G2 G3 H0 H1 H2 H3 : PV} (hM : MachC B P σ ow w m q tv ev sv G0 G1 G2 G3) (hg : m'.gors = m.gors) (hc : m'.chans = m.chans) (hx : m'.boxes = m.boxes) (hw : m'.ws = m.ws) (hgl : m'.globals = [H0, H1, H2, H3])
    (hk : Keep (fun b => ow b = some .mach) w w')
    (hcell : w'.heap[σ.mb]? = some (.cells #[P, q', encV σ H0, encV σ H1, encV σ H2, encV σ H3, .int .i64 m'.now, tv', .int .i64 m'.gors.length, ev', .int .i64 m'.outcome, sv'] 66 (0, 0)))
    (r1 : RowO B (frm ow w.heap.size (some .mach)) w' .mach 95 1 q' m'.queue.length (gPtrs σ m'.queue)) (r2 : RowO B (frm ow w.heap.size (some .mach)) w' .mach 104 2 tv' m'.timers.length (m'.timers.flatMap (tmC σ)))
    (r3 : RowO B (frm ow w.heap.size (some .mach)) w' .mach 41 4 ev' m'.events.length (m'.events.flatMap evC)) (r4 : RowO B (frm ow w.heap.size (some .mach)) w' .mach 3 1 sv' m'.steps.length (m'.steps.map (Value.int .i64))) : Res B P σ ow m' w w' :=
  ⟨_, h.setMach (.of hk) h.frm_base hg hc hx hw ⟨q', tv', ev', sv', H0, H1, H2, H3, hgl, hM.cells.anew hcell, r1, r2, r3, r4⟩, hk.mono (fun b _ e => by rw [e]; simp), .frm _⟩
theorem MachC.apart {q tv ev sv : Value} {G0 G1 G2 G3 : PV} (h : MachC B P σ ow w m q tv ev sv G0 G1 G2 G3) :
    (q.ownBlock ≠ some σ.mb ∧ tv.ownBlock ≠ some σ.mb ∧ ev.ownBlock ≠ some σ.mb ∧ sv.ownBlock ≠ some σ.mb) ∧
    (∀ b, q.ownBlock = some b → tv.ownBlock ≠ some b ∧ ev.ownBlock ≠ some b ∧ sv.ownBlock ≠ some b) ∧ (∀ b, tv.ownBlock = some b → q.ownBlock ≠ some b ∧ ev.ownBlock ≠ some b ∧ sv.ownBlock ≠ some b) ∧
    (∀ b, ev.ownBlock = some b → q.ownBlock ≠ some b ∧ tv.ownBlock ≠ some b ∧ sv.ownBlock ≠ some b) ∧ (∀ b, sv.ownBlock = some b → q.ownBlock ≠ some b ∧ tv.ownBlock ≠ some b ∧ ev.ownBlock ≠ some b) :=
  ⟨⟨h.queue.row_ne h.cells.1 (by decide), h.timers.row_ne h.cells.1 (by decide), h.events.row_ne h.cells.1 (by decide), h.steps.row_ne h.cells.1 (by decide)⟩,
   fun b hb => ⟨h.timers.rows_ne h.queue (by decide) b hb, h.events.rows_ne h.queue (by decide) b hb, h.steps.rows_ne h.queue (by decide) b hb⟩,
   fun b hb => ⟨h.queue.rows_ne h.timers (by decide) b hb, h.events.rows_ne h.timers (by decide) b hb, h.steps.rows_ne h.timers (by decide) b hb⟩,
   fun b hb => ⟨h.queue.rows_ne h.events (by decide) b hb, h.timers.rows_ne h.events (by decide) b hb, h.steps.rows_ne h.events (by decide) b hb⟩,
   fun b hb => ⟨h.queue.rows_ne h.steps (by decide) b hb, h.timers.rows_ne h.steps (by decide) b hb, h.events.rows_ne h.steps (by decide) b hb⟩⟩
end
end Go.Proofs.YtklfboidjnchoaaGreatDoor
namespace Go.Proofs.YtklfboidjnchoaaGreatDoor
open Go.RowKit
set_option linter.unusedVariables false
set_option linter.unusedSimpArgs false
theorem run_clear_row {P : Program} {n : Nat} (w : World) (t e ty : TypeId) (z : Value) (ht : P.underlying t = some (.slice e)) (hv : ∀ w, (zeroValue e).run P w = .ok z w) (h1 : ∀ v ∈ (Builtin.zeroCells z.cells n).toList, v.oneCell' = true) (b o c : Nat) (hn : 0 < n)
    (hc : ∀ j, j < (Builtin.zeroCells z.cells n).toList.length → (w.cell? ⟨b, o + j, none⟩).isSome = true) (hf : ∀ j, j < (Builtin.zeroCells z.cells n).toList.length → w.frozen? ⟨b, o + j, none⟩ = false) :
    (Builtin.clear_ #[t] ty #[.slice (some ⟨b, o, none⟩) n c]).run P w = .ok (.tuple #[]) (w.setCells b o (Builtin.zeroCells z.cells n).toList) := by
  have hst := run_storeCells_cells (P := P) b o (Builtin.zeroCells z.cells n).toList 0 w (by simpa using hc) (by simpa using hf) h1
  simp only [Nat.add_zero] at hst
  obtain ⟨m, rfl⟩ : ∃ m, n = m + 1 := ⟨n - 1, by omega⟩
  simp [Builtin.clear_, run_underlying ht, hv, hst]
theorem block_cell {w : World} {b : Nat} {cs : Array Value} {t : TypeId} {fr : Nat × Nat} (h : w.heap[b]? = some (.cells cs t fr)) (j : Nat) : w.cell? ⟨b, j, none⟩ = cs[j]? := cell_of_row w b j cs t fr h
theorem block_lt {w : World} {b : Nat} {o : Obj} (h : w.heap[b]? = some o) : b < w.heap.size := (Array.getElem?_eq_some_iff.1 h).1
theorem Keep.setCells {S : Nat → Prop} {a b : World} (h : Keep S a b) {g : Nat} (hg : S g) (vs : List Value) : ∀ o, Keep S a (b.setCells g o vs) := by
  induction vs generalizing b with
  | nil => intro o; exact h
  | cons u vs ih => intro o; exact ih (h.setCell (p := ⟨g, o, none⟩) hg u) (o + 1)
end Go.Proofs.YtklfboidjnchoaaGreatDoor
