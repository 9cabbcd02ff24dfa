/-
  A monitor in memory: its maps, its stays, their rows, each a part of its own (Pc); what a step that changes some parts leaves of the rest (Own.step).
  Conditions: none.
-/
import Derived.Test.YtogagkgkmoppmaaMonH
import Derived.Test.YtogagkgkmoppmaaMonK
namespace Go.Proofs.Ytogagkgkmoppmaa
set_option linter.unusedVariables false
set_option linter.unusedSimpArgs false
open Go.RowKit GM
theorem confLaw : KLaw Try.prog 30 confV := KLaw.asking Try.underlying30 (fun a b h => by
    obtain ⟨a1, a2⟩ := a
    obtain ⟨b1, b2⟩ := b
    simp [confV] at h
    rw [h.1, h.2]) (fun a => ⟨_, rfl⟩) (fun w em a => confCheck w em 9998 _ _) (fun w a b => by
    have h := equal_of_eql (confEql w a.1 a.2 b.1 b.2)
    obtain ⟨a1, a2⟩ := a
    obtain ⟨b1, b2⟩ := b
    refine h.trans (congrArg (fun z => Result.ok z w) ?_)
    rw [Bool.eq_iff_iff]
    simp) (fun a => by simp [confV, Instr.sameBits])
theorem placeLaw : KLaw Try.prog 69 placeV := KLaw.asking Try.underlying69 (fun a b h => by
    obtain ⟨a1, a2, a3, a4⟩ := a
    obtain ⟨b1, b2, b3, b4⟩ := b
    simp [placeV] at h
    rw [h.1, h.2.1, h.2.2.1, h.2.2.2]) (fun a => ⟨_, rfl⟩) (fun w em a => placeCheck w em 9997 _ _ _ _) (fun w a b => by
    have h := equal_of_eql (placeEql w a.1 a.2.1 a.2.2.1 a.2.2.2 b.1 b.2.1 b.2.2.1 b.2.2.2)
    obtain ⟨a1, a2, a3, a4⟩ := a
    obtain ⟨b1, b2, b3, b4⟩ := b
    refine h.trans (congrArg (fun z => Result.ok z w) ?_)
    rw [Bool.eq_iff_iff]
    simp [and_assoc]) (fun a => by simp [placeV, Instr.sameBits])
theorem hadLaw : KLaw Try.prog 71 hadV := KLaw.asking Try.underlying71 (fun a b h => by
    obtain ⟨a1, a2, a3, a4, a5⟩ := a
    obtain ⟨b1, b2, b3, b4, b5⟩ := b
    simp [hadV] at h
    rw [h.1, h.2.1, h.2.2.1, h.2.2.2.1, h.2.2.2.2]) (fun a => ⟨_, rfl⟩) (fun w em a => hadCheck w em 9996 _ _ _ _ _) (fun w a b => by
    have h := equal_of_eql (hadEql w a.1 a.2.1 a.2.2.1 a.2.2.2.1 a.2.2.2.2 b.1 b.2.1 b.2.2.1 b.2.2.2.1 b.2.2.2.2)
    obtain ⟨a1, a2, a3, a4, a5⟩ := a
    obtain ⟨b1, b2, b3, b4, b5⟩ := b
    refine h.trans (congrArg (fun z => Result.ok z w) ?_)
    rw [Bool.eq_iff_iff]
    simp [and_assoc]) (fun a => by simp [hadV, Instr.sameBits])
theorem intLaw : KLaw Try.prog 3 (fun i : Int => Value.int .i64 i) := KLaw.int Try.underlying3
/-- an event's cells -/
structure Ev where
  kind : Int
  proc : Int
  ce : Nat
  cr : Int
  ne : Nat
  nr : Int
  mem : Nat
  m : Msg
  vn : Nat
  vce : Nat
  vcr : Int
  vm : Nat
  na : Option Addr
  nl : Nat
  nc : Nat
  st : ByteArray
def evA (x : Ev) : Array Value := #[.int .i64 x.kind, .int .i64 x.proc, .int .u64 (x.ce : Int), .int .i64 x.cr, .int .u64 (x.ne : Int), .int .i64 x.nr, .int .u64 (x.mem : Int), .int .i64 x.m.frm, .int .u32 (x.m.seq : Int), .int .u64 (x.m.stamp : Int), .int .i64 x.m.service, .slice x.m.da x.m.ds.length x.m.dc, .string x.m.pay, .int .u64 (x.vn : Int), .int .u64 (x.vce : Int), .int .i64 x.vcr, .int .u64 (x.vm : Int), .slice x.na x.nl x.nc, .string x.st]
def EvAt (w : World) (b : Nat) (x : Ev) : Prop := w.heap[b]? = some (.cells (evA x) 39 (0, 0))
/-- a row of messages: what it reads as, and where it lies -/
structure SR where
  l : List Msg
  ad : Option Addr
  cap : Nat
def slV (r : SR) : Value := .slice r.ad r.l.length r.cap
def ptrV (b : Nat) : Value := .pointer (some ⟨b, 0, none⟩)
def RowOk (w : World) (r : SR) : Prop := w.ownsRow 0 34 6 (slV r) r.l.length (rowsM r.l) ∧ ∀ m ∈ r.l, MsgT w m
/-- a stay: its block, its cells, its counts, its EvTrans -/
structure SX where
  b : Nat
  s : ST
  cnt : List (Int × Int)
  ev : Ev
def r0 (x : SX) : SR := ⟨x.s.p0, x.s.a0, x.s.c0⟩
def r1 (x : SX) : SR := ⟨x.s.p1, x.s.a1, x.s.c1⟩
/-- blocks that hold neither numbers nor events -/
def Quiet (w : World) (S : Nat → Prop) : Prop := ∀ b, S b → ∀ cs t fr, w.heap[b]? = some (.cells cs t fr) → t ≠ 31 ∧ t ≠ 39
theorem MsgT.quiet {w w' : World} {m : Msg} {S : Nat → Prop} (h : MsgT w m) (hk : Kept S w w') (hs : Quiet w S) : MsgT w' m := by
  have hne : ∀ B O, m.da = some ⟨B, O, none⟩ → 0 < m.ds.length → ¬ S B := fun B O e h0 hS => by
    obtain ⟨cs, fr, hb⟩ := h.ty B O e h0
    exact (hs B hS cs _ fr hb).1 rfl
  refine ⟨⟨fun i hi => ?_, h.r.len⟩, fun B O e h0 => ?_⟩
  · obtain ⟨B, O, e, hB, hc⟩ := h.r.ds i hi
    exact ⟨B, O, e, Nat.lt_of_lt_of_le hB hk.size, (hk.cell (p := ⟨B, O + i, none⟩) hB (hne B O e (by omega))).trans hc⟩
  · obtain ⟨cs, fr, hb⟩ := h.ty B O e h0
    exact ⟨cs, fr, hk.keep hb (hne B O e h0)⟩
/-- a part: where it lies, and what is so of it -/
structure Pc where
  blk : Option Nat
  ok : World → Prop
  lt : ∀ w b, ok w → blk = some b → b < w.heap.size ∧ ∀ cs t fr, w.heap[b]? = some (.cells cs t fr) → t ≠ 31 ∧ t ≠ 39
  keep : ∀ (w w' : World) (S : Nat → Prop), ok w → Kept S w w' → (∀ b, blk = some b → ¬ S b) → Quiet w S → ok w'
theorem lt_of_cells {w : World} {b : Nat} {cs : Array Value} {t : TypeId} {fr : Nat × Nat} (h : w.heap[b]? = some (.cells cs t fr)) (h1 : t ≠ 31) (h2 : t ≠ 39) :
    b < w.heap.size ∧ ∀ cs t fr, w.heap[b]? = some (.cells cs t fr) → t ≠ 31 ∧ t ≠ 39 := by
  refine ⟨(Array.getElem?_eq_some_iff.1 h).1, fun cs' t' fr' h' => ?_⟩
  rw [h] at h'
  injection h' with h'
  injection h' with _ h' _
  subst h'
  exact ⟨h1, h2⟩
def monPc (B : Nat) (c : MC) : Pc where
  blk := some B
  ok := fun w => MAt w B c
  lt := fun w b h e => by injection e with e; subst e; exact lt_of_cells h (by decide) (by decide)
  keep := fun w w' S h hk hs _ => (hk.block _ h.lt (hs _ rfl)).trans h
def mapPc {α : Type} [DecidableEq α] (f : α → Value) (b : Nat) (L : List (α × Value)) : Pc where
  blk := some b
  ok := fun w => GMap f w b L
  lt := fun w b' h e => by
    injection e with e
    subst e
    refine ⟨h.lt, fun cs t fr hc => ?_⟩
    obtain ⟨_, es, clock, hb, _⟩ := h
    rw [hb] at hc
    cases hc
  keep := fun w w' S h hk hs _ => h.keep (hk.block _ h.lt (hs _ rfl))
def rowPc (r : SR) : Pc where
  blk := (slV r).ownBlock
  ok := fun w => RowOk w r
  lt := fun w b h e => by
    obtain ⟨c, fz, hc⟩ := Lib.ownsRow_kind h.1 b e
    exact lt_of_cells hc (by decide) (by decide)
  keep := fun w w' S h hk hs hq => ⟨own_keptS h.1 hk hs, fun m hm => (h.2 m hm).quiet hk hq⟩
def ptrsPc (a : Option Addr) (n c : Nat) (xs : List Value) : Pc where
  blk := (Value.slice a n c).ownBlock
  ok := fun w => w.ownsRow 0 57 1 (.slice a n c) n xs
  lt := fun w b h e => by
    obtain ⟨c, fz, hc⟩ := Lib.ownsRow_kind h b e
    exact lt_of_cells hc (by decide) (by decide)
  keep := fun w w' S h hk hs hq => own_keptS h hk hs
def stayPc (b : Nat) (s : ST) (ev : Ev) : Pc where
  blk := some b
  ok := fun w => StAt w b s ∧ ∀ b', s.tr = some b' → EvAt w b' ev
  lt := fun w b' h e => by injection e with e; subst e; exact lt_of_cells h.1 (by decide) (by decide)
  keep := fun w w' S h hk hs hq => ⟨h.1.kept hk (hs _ rfl), fun b' hb => hk.keep (h.2 b' hb) (fun hS => (hq b' hS _ _ _ (h.2 b' hb)).2 rfl)⟩
/-- parts that lie apart, from a block on -/
structure Own (w : World) (b0 : Nat) (l : List Pc) : Prop where
  ok : ∀ p ∈ l, p.ok w
  base : ∀ p ∈ l, ∀ b, p.blk = some b → b0 ≤ b
  ap : l.Pairwise fun p q => ∀ b, p.blk = some b → q.blk ≠ some b
theorem Own.perm {w : World} {b0 : Nat} {l l' : List Pc} (h : Own w b0 l) (hp : l.Perm l') : Own w b0 l' :=
  ⟨fun p hm => h.ok p (hp.mem_iff.2 hm), fun p hm => h.base p (hp.mem_iff.2 hm), (hp.pairwise_iff (fun {x y} hxy b hb e => hxy b e hb)).1 h.ap⟩
theorem Own.below {w w' : World} {b0 : Nat} {l : List Pc} (h : Own w b0 l) (hb : Below w.heap.size w w') : Own w' b0 l :=
  ⟨fun p hp => p.keep w w' (fun _ => False) (h.ok p hp) (Kept.of_below hb) (fun _ _ h => h) (fun _ h => h.elim), h.base, h.ap⟩
theorem Own.left {w : World} {b0 : Nat} {l r : List Pc} (h : Own w b0 (l ++ r)) : Own w b0 l :=
  ⟨fun p hp => h.ok p (List.mem_append_left _ hp), fun p hp => h.base p (List.mem_append_left _ hp), (List.pairwise_append.1 h.ap).1⟩
/-- the blocks of some parts, and all that are new -/
def Reach (w : World) (L : List Pc) (b : Nat) : Prop := (∃ p ∈ L, p.blk = some b) ∨ w.heap.size ≤ b
theorem Own.quiet {w : World} {b0 : Nat} {l : List Pc} (h : Own w b0 l) : Quiet w (Reach w l) := by
  intro b hb cs t fr hc
  rcases hb with ⟨p, hp, e⟩ | hb
  · exact (p.lt w b (h.ok p hp) e).2 cs t fr hc
  · rw [Array.getElem?_eq_none hb] at hc
    cases hc
/-- a step that changes some parts leaves the others -/
theorem Own.step {w w' : World} {b0 : Nat} {L L' R : List Pc} (h : Own w b0 (L ++ R)) (hb0 : b0 ≤ w.heap.size) (hk : Kept (Reach w L) w w') (hL : Own w' 0 L') (hB : ∀ p ∈ L', ∀ b, p.blk = some b → Reach w L b) : Own w' b0 (L' ++ R) := by
  have hLR := (List.pairwise_append.1 h.ap).2.2
  have hout : ∀ p ∈ R, ∀ b, p.blk = some b → ¬ Reach w L b := fun p hp b e hr => by
    rcases hr with ⟨q, hq, e'⟩ | hr
    · exact hLR q hq p hp b e' e
    · have := (p.lt w b (h.ok p (List.mem_append_right _ hp)) e).1
      omega
  refine ⟨fun p hp => ?_, fun p hp b e => ?_, List.pairwise_append.2 ⟨hL.ap, (List.pairwise_append.1 h.ap).2.1, fun p hp q hq b e e' => hout q hq b e' (hB p hp b e)⟩⟩
  · rcases List.mem_append.1 hp with hp | hp
    · exact hL.ok p hp
    · exact p.keep w w' _ (h.ok p (List.mem_append_right _ hp)) hk (hout p hp) h.left.quiet
  · rcases List.mem_append.1 hp with hp | hp
    · rcases hB p hp b e with ⟨q, hq, e'⟩ | hr
      · exact h.base q (List.mem_append_left _ hq) b e'
      · omega
    · exact h.base p (List.mem_append_right _ hp) b e
/-- what lies below all parts stays -/
theorem Own.low {w w' : World} {b0 : Nat} {L : List Pc} (h : Own w b0 L) (hb0 : b0 ≤ w.heap.size) (hk : Kept (Reach w L) w w') : Kept (fun b => b0 ≤ b) w w' := by
  refine hk.more fun b _ hb => ?_
  rcases hb with ⟨p, hp, e⟩ | hb
  · exact h.base p hp b e
  · omega
/-- a monitor -/
structure MM where
  c : MC
  sends : List (PlaceK × SR)
  seen : List (HadK × Bool)
  mems : List (ConfK × Nat)
  stays : List SX
  live : List (Int × Bool)
  now : List (Int × Nat)
abbrev intV (i : Int) : Value := .int .i64 i
def nthV (l : List SX) (k : Nat) : Value := ptrV ((l.map fun x => x.b).getD k 0)
def stP (x : SX) : List Pc := [stayPc x.b x.s x.ev, mapPc intV x.s.cb (vals intV x.cnt), rowPc (r0 x), rowPc (r1 x)]
def sendsPc (M : MM) : Pc := mapPc placeV M.c.sb (vals slV M.sends)
def seenPc (M : MM) : Pc := mapPc hadV M.c.hb (vals (fun b : Bool => Value.bool b) M.seen)
def memsPc (M : MM) : Pc := mapPc confV M.c.eb (vals (fun n : Nat => Value.int .u64 (n : Int)) M.mems)
def livePc (M : MM) : Pc := mapPc intV M.c.lb (vals (fun b : Bool => Value.bool b) M.live)
def nowPc (M : MM) : Pc := mapPc intV M.c.nb (vals (nthV M.stays) M.now)
def rowP (M : MM) : Pc := ptrsPc M.c.sa M.c.n M.c.sc (M.stays.map fun x => ptrV x.b)
def parts (B : Nat) (M : MM) : List Pc := monPc B M.c :: sendsPc M :: seenPc M :: memsPc M :: livePc M :: nowPc M :: rowP M :: (M.stays.flatMap stP ++ M.sends.map fun p => rowPc p.2)
/-- what a monitor's parts keep to -/
structure MOk (M : MM) : Prop where
  n : M.c.n = M.stays.length
  now : ∀ p ∈ M.now, p.2 < M.stays.length
end Go.Proofs.Ytogagkgkmoppmaa
