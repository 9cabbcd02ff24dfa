/-
  A monitor in memory: its maps, its stays, their rows, each a part of its own (Pc); what a step that changes some parts leaves of the rest (Own.step).
  Conditions: none.
-/
import Derived.Test.YtogagkgkmoppmaaMonH
import Derived.Test.YtogagkgkmoppmaaMonK
namespace Go.Proofs.Ytogagkgkmoppmaa
set_option linter.unusedVariables false
set_option linter.unusedSimpArgs false
open Go.RowKit GM
theorem confLaw : KLaw Try.prog 30 confV := KLaw.asking Try.underlying30 (fun a b h => by
    obtain ⟨a1, a2⟩ := a
    obtain ⟨b1, b2⟩ := b
    simp [confV] at h
    rw [h.1, h.2]) (fun a => ⟨_, rfl⟩) (fun w em a => confCheck w em 9998 _ _) (fun w a b => by
    have h := equal_of_eql (confEql w a.1 a.2 b.1 b.2)
    obtain ⟨a1, a2⟩ := a
    obtain ⟨b1, b2⟩ := b
    refine h.trans (congrArg (fun z => Result.ok z w) ?_)
    rw [Bool.eq_iff_iff]
    simp) (fun a => by simp [confV, Instr.sameBits])
theorem placeLaw : KLaw Try.prog 69 placeV := KLaw.asking Try.underlying69 (fun a b h => by
    obtain ⟨a1, a2, a3, a4⟩ := a
    obtain ⟨b1, b2, b3, b4⟩ := b
    simp [placeV] at h
    rw [h.1, h.2.1, h.2.2.1, h.2.2.2]) (fun a => ⟨_, rfl⟩) (fun w em a => placeCheck w em 9997 _ _ _ _) (fun w a b => by
    have h := equal_of_eql (placeEql w a.1 a.2.1 a.2.2.1 a.2.2.2 b.1 b.2.1 b.2.2.1 b.2.2.2)
    obtain ⟨a1, a2, a3, a4⟩ := a
    obtain ⟨b1, b2, b3, b4⟩ := b
    refine h.trans (congrArg (fun z => Result.ok z w) ?_)
    rw [Bool.eq_iff_iff]
    simp [and_assoc]) (fun a => by simp [placeV, Instr.sameBits])
theorem hadLaw : KLaw Try.prog 71 hadV := KLaw.asking Try.underlying71 (fun a b h => by
    obtain ⟨a1, a2, a3, a4, a5⟩ := a
    obtain ⟨b1, b2, b3, b4, b5⟩ := b
    simp [hadV] at h
    rw [h.1, h.2.1, h.2.2.1, h.2.2.2.1, h.2.2.2.2]) (fun a => ⟨_, rfl⟩) (fun w em a => hadCheck w em 9996 _ _ _ _ _) (fun w a b => by
    have h := equal_of_eql (hadEql w a.1 a.2.1 a.2.2.1 a.2.2.2.1 a.2.2.2.2 b.1 b.2.1 b.2.2.1 b.2.2.2.1 b.2.2.2.2)
    obtain ⟨a1, a2, a3, a4, a5⟩ := a
    obtain ⟨b1, b2, b3, b4, b5⟩ := b
    refine h.trans (congrArg (fun z => Result.ok z w) ?_)
    rw [Bool.eq_iff_iff]
    simp [and_assoc]) (fun a => by simp [hadV, Instr.sameBits])
theorem intLaw : KLaw Try.prog 3 (fun i : Int => Value.int .i64 i) := KLaw.int Try.underlying3
/-- an event's cells -/
structure Ev where
  kind : Int
  proc : Int
  ce : Nat
  cr : Int
  ne : Nat
  nr : Int
  mem : Nat
  m : Msg
  vn : Nat
  vce : Nat
  vcr : Int
  vm : Nat
  na : Option Addr
  nl : Nat
  nc : Nat
  st : ByteArray
def evA (x : Ev) : Array Value := #[.int .i64 x.kind, .int .i64 x.proc, .int .u64 (x.ce : Int), .int .i64 x.cr, .int .u64 (x.ne : Int), .int .i64 x.nr, .int .u64 (x.mem : Int), .int .i64 x.m.frm, .int .u32 (x.m.seq : Int), .int .u64 (x.m.stamp : Int), .int .i64 x.m.service, .slice x.m.da x.m.ds.length x.m.dc, .string x.m.pay, .int .u64 (x.vn : Int), .int .u64 (x.vce : Int), .int .i64 x.vcr, .int .u64 (x.vm : Int), .slice x.na x.nl x.nc, .string x.st]
def EvAt (w : World) (b : Nat) (x : Ev) : Prop := w.heap[b]? = some (.cells (evA x) 39 (0, 0))
/-- a row of messages: what it reads as, and where it lies -/
structure SR where
  l : List Msg
  ad : Option Addr
  cap : Nat
def slV (r : SR) : Value := .slice r.ad r.l.length r.cap
def ptrV (b : Nat) : Value := .pointer (some ⟨b, 0, none⟩)
def RowOk (w : World) (r : SR) : Prop := w.ownsRow 0 34 6 (slV r) r.l.length (rowsM r.l) ∧ ∀ m ∈ r.l, MsgT w m
/-- a stay: its block, its cells, its counts, its EvTrans -/
structure SX where
  b : Nat
  s : ST
  cnt : List (Int × Int)
  ev : Ev
def r0 (x : SX) : SR := ⟨x.s.p0, x.s.a0, x.s.c0⟩
def r1 (x : SX) : SR := ⟨x.s.p1, x.s.a1, x.s.c1⟩
/-- blocks that hold neither numbers nor events -/
def Quiet (w : World) (S : Nat → Prop) : Prop := ∀ b, S b → ∀ cs t fr, w.heap[b]? = some (.cells cs t fr) → t ≠ 31 ∧ t ≠ 39
theorem MsgT.quiet {w w' : World} {m : Msg} {S : Nat → Prop} (h : MsgT w m) (hk : Kept S w w') (hs : Quiet w S) : MsgT w' m := by
  have hne : ∀ B O, m.da = some ⟨B, O, none⟩ → 0 < m.ds.length → ¬ S B := fun B O e h0 hS => by
    obtain ⟨cs, fr, hb⟩ := h.ty B O e h0
    exact (hs B hS cs _ fr hb).1 rfl
  refine ⟨⟨fun i hi => ?_, h.r.len⟩, fun B O e h0 => ?_⟩
  · obtain ⟨B, O, e, hB, hc⟩ := h.r.ds i hi
    exact ⟨B, O, e, Nat.lt_of_lt_of_le hB hk.size, (hk.cell (p := ⟨B, O + i, none⟩) hB (hne B O e (by omega))).trans hc⟩
  · obtain ⟨cs, fr, hb⟩ := h.ty B O e h0
    exact ⟨cs, fr, hk.keep hb (hne B O e h0)⟩
/-- a part: where it lies, and what is so of it -/
structure Pc where
  blk : Option Nat
  ok : World → Prop
  lt : ∀ w b, ok w → blk = some b → b < w.heap.size ∧ ∀ cs t fr, w.heap[b]? = some (.cells cs t fr) → t ≠ 31 ∧ t ≠ 39
  keep : ∀ (w w' : World) (S : Nat → Prop), ok w → Kept S w w' → (∀ b, blk = some b → ¬ S b) → Quiet w S → ok w'
theorem lt_of_cells {w : World} {b : Nat} {cs : Array Value} {t : TypeId} {fr : Nat × Nat} (h : w.heap[b]? = some (.cells cs t fr)) (h1 : t ≠ 31) (h2 : t ≠ 39) :
    b < w.heap.size ∧ ∀ cs t fr, w.heap[b]? = some (.cells cs t fr) → t ≠ 31 ∧ t ≠ 39 := by
  refine ⟨(Array.getElem?_eq_some_iff.1 h).1, fun cs' t' fr' h' => ?_⟩
  rw [h] at h'
  injection h' with h'
  injection h' with _ h' _
  subst h'
  exact ⟨h1, h2⟩
def monPc (B : Nat) (c : MC) : Pc where
  blk := some B
  ok := fun w => MAt w B c
  lt := fun w b h e => by injection e with e; subst e; exact lt_of_cells h (by decide) (by decide)
  keep := fun w w' S h hk hs _ => (hk.block _ h.lt (hs _ rfl)).trans h
def mapPc {α : Type} [DecidableEq α] (f : α → Value) (b : Nat) (L : List (α × Value)) : Pc where
  blk := some b
  ok := fun w => GMap f w b L
  lt := fun w b' h e => by
    injection e with e
    subst e
    refine ⟨h.lt, fun cs t fr hc => ?_⟩
    obtain ⟨_, es, clock, hb, _⟩ := h
    rw [hb] at hc
    cases hc
  keep := fun w w' S h hk hs _ => h.keep (hk.block _ h.lt (hs _ rfl))
def rowPc (r : SR) : Pc where
  blk := (slV r).ownBlock
  ok := fun w => RowOk w r
  lt := fun w b h e => by
    obtain ⟨c, fz, hc⟩ := Lib.ownsRow_kind h.1 b e
    exact lt_of_cells hc (by decide) (by decide)
  keep := fun w w' S h hk hs hq => ⟨own_keptS h.1 hk hs, fun m hm => (h.2 m hm).quiet hk hq⟩
def ptrsPc (a : Option Addr) (n c : Nat) (xs : List Value) : Pc where
  blk := (Value.slice a n c).ownBlock
  ok := fun w => w.ownsRow 0 57 1 (.slice a n c) n xs
  lt := fun w b h e => by
    obtain ⟨c, fz, hc⟩ := Lib.ownsRow_kind h b e
    exact lt_of_cells hc (by decide) (by decide)
  keep := fun w w' S h hk hs hq => own_keptS h hk hs
def stayPc (b : Nat) (s : ST) (ev : Ev) : Pc where
  blk := some b
  ok := fun w => StAt w b s ∧ ∀ b', s.tr = some b' → EvAt w b' ev
  lt := fun w b' h e => by injection e with e; subst e; exact lt_of_cells h.1 (by decide) (by decide)
  keep := fun w w' S h hk hs hq => ⟨h.1.kept hk (hs _ rfl), fun b' hb => hk.keep (h.2 b' hb) (fun hS => (hq b' hS _ _ _ (h.2 b' hb)).2 rfl)⟩
/-- parts that lie apart, from a block on -/
structure Own (w : World) (b0 : Nat) (l : List Pc) : Prop where
  ok : ∀ p ∈ l, p.ok w
  base : ∀ p ∈ l, ∀ b, p.blk = some b → b0 ≤ b
  ap : l.Pairwise fun p q => ∀ b, p.blk = some b → q.blk ≠ some b
theorem Own.perm {w : World} {b0 : Nat} {l l' : List Pc} (h : Own w b0 l) (hp : l.Perm l') : Own w b0 l' :=
  ⟨fun p hm => h.ok p (hp.mem_iff.2 hm), fun p hm => h.base p (hp.mem_iff.2 hm), (hp.pairwise_iff (fun {x y} hxy b hb e => hxy b e hb)).1 h.ap⟩
theorem Own.below {w w' : World} {b0 : Nat} {l : List Pc} (h : Own w b0 l) (hb : Below w.heap.size w w') : Own w' b0 l :=
  ⟨fun p hp => p.keep w w' (fun _ => False) (h.ok p hp) (Kept.of_below hb) (fun _ _ h => h) (fun _ h => h.elim), h.base, h.ap⟩
theorem Own.left {w : World} {b0 : Nat} {l r : List Pc} (h : Own w b0 (l ++ r)) : Own w b0 l :=
  ⟨fun p hp => h.ok p (List.mem_append_left _ hp), fun p hp => h.base p (List.mem_append_left _ hp), (List.pairwise_append.1 h.ap).1⟩
/-- the blocks of some parts, and all that are new -/
def Reach (w : World) (L : List Pc) (b : Nat) : Prop := (∃ p ∈ L, p.blk = some b) ∨ w.heap.size ≤ b
theorem Own.quiet {w : World} {b0 : Nat} {l : List Pc} (h : Own w b0 l) : Quiet w (Reach w l) := by
  intro b hb cs t fr hc
  rcases hb with ⟨p, hp, e⟩ | hb
  · exact (p.lt w b (h.ok p hp) e).2 cs t fr hc
  · rw [Array.getElem?_eq_none hb] at hc
    cases hc
/-- a step that changes some parts leaves the others -/
theorem Own.step {w w' : World} {b0 : Nat} {L L' R : List Pc} (h : Own w b0 (L ++ R)) (hb0 : b0 ≤ w.heap.size) (hk : Kept (Reach w L) w w') (hL : Own w' 0 L') (hB : ∀ p ∈ L', ∀ b, p.blk = some b → Reach w L b) : Own w' b0 (L' ++ R) := by
  have hLR := (List.pairwise_append.1 h.ap).2.2
  have hout : ∀ p ∈ R, ∀ b, p.blk = some b → ¬ Reach w L b := fun p hp b e hr => by
    rcases hr with ⟨q, hq, e'⟩ | hr
    · exact hLR q hq p hp b e' e
    · have := (p.lt w b (h.ok p (List.mem_append_right _ hp)) e).1
      omega
  refine ⟨fun p hp => ?_, fun p hp b e => ?_, List.pairwise_append.2 ⟨hL.ap, (List.pairwise_append.1 h.ap).2.1, fun p hp q hq b e e' => hout q hq b e' (hB p hp b e)⟩⟩
  · rcases List.mem_append.1 hp with hp | hp
    · exact hL.ok p hp
    · exact p.keep w w' _ (h.ok p (List.mem_append_right _ hp)) hk (hout p hp) h.left.quiet
  · rcases List.mem_append.1 hp with hp | hp
    · rcases hB p hp b e with ⟨q, hq, e'⟩ | hr
      · exact h.base q (List.mem_append_left _ hq) b e'
      · omega
    · exact h.base p (List.mem_append_right _ hp) b e
/-- what lies below all parts stays -/
theorem Own.low {w w' : World} {b0 : Nat} {L : List Pc} (h : Own w b0 L) (hb0 : b0 ≤ w.heap.size) (hk : Kept (Reach w L) w w') : Kept (fun b => b0 ≤ b) w w' := by
  refine hk.more fun b _ hb => ?_
  rcases hb with ⟨p, hp, e⟩ | hb
  · exact h.base p hp b e
  · omega
/-- a monitor -/
structure MM where
  c : MC
  sends : List (PlaceK × SR)
  seen : List (HadK × Bool)
  mems : List (ConfK × Nat)
  stays : List SX
  live : List (Int × Bool)
  now : List (Int × Nat)
abbrev intV (i : Int) : Value := .int .i64 i
def nthV (l : List SX) (k : Nat) : Value := ptrV ((l.map fun x => x.b).getD k 0)
def stP (x : SX) : List Pc := [stayPc x.b x.s x.ev, mapPc intV x.s.cb (vals intV x.cnt), rowPc (r0 x), rowPc (r1 x)]
def sendsPc (M : MM) : Pc := mapPc placeV M.c.sb (vals slV M.sends)
def seenPc (M : MM) : Pc := mapPc hadV M.c.hb (vals (fun b : Bool => Value.bool b) M.seen)
def memsPc (M : MM) : Pc := mapPc confV M.c.eb (vals (fun n : Nat => Value.int .u64 (n : Int)) M.mems)
def livePc (M : MM) : Pc := mapPc intV M.c.lb (vals (fun b : Bool => Value.bool b) M.live)
def nowPc (M : MM) : Pc := mapPc intV M.c.nb (vals (nthV M.stays) M.now)
def rowP (M : MM) : Pc := ptrsPc M.c.sa M.c.n M.c.sc (M.stays.map fun x => ptrV x.b)
def parts (B : Nat) (M : MM) : List Pc := monPc B M.c :: sendsPc M :: seenPc M :: memsPc M :: livePc M :: nowPc M :: rowP M :: (M.stays.flatMap stP ++ M.sends.map fun p => rowPc p.2)
/-- what a monitor's parts keep to -/
structure MOk (M : MM) : Prop where
  n : M.c.n = M.stays.length
  now : ∀ p ∈ M.now, p.2 < M.stays.length
end Go.Proofs.Ytogagkgkmoppmaa
namespace Go.Proofs.Ytogagkgkmoppmaa
set_option linter.unusedVariables false
set_option linter.unusedSimpArgs false
open Go.RowKit GM
/-- a message without its place -/
def bare (m : Msg) : Msg := { m with da := none, dc := 0 }
theorem sameM_bare (a b : Msg) : sameM (bare a) (bare b) = sameM a b := rfl
structure PS where
  proc : Int
  conf : ConfK
  mem : Nat
  p0 : List Msg
  p1 : List Msg
  cnt : Int → Int
  tr : Option (ConfK × Nat)
  went : Bool
structure PM where
  sends : PlaceK → List Msg
  seen : HadK → Bool
  mems : ConfK → Option Nat
  stays : List PS
  live : Int → Bool
  now : Int → Option Nat
  broken : Int
  len : Int
  at_ : Int
  rule : Int
def conf (x : Ev) : ConfK := ((x.ce : Int), x.cr)
def next (x : Ev) : ConfK := ((x.ne : Int), x.nr)
def trOf (x : SX) : Option (ConfK × Nat) := if x.s.tr.isSome = true then some (next x.ev, x.ev.mem) else none
def projS (x : SX) : PS where
  proc := x.s.proc
  conf := ((x.s.ce : Int), x.s.cr)
  mem := x.s.mem
  p0 := x.s.p0.map bare
  p1 := x.s.p1.map bare
  cnt := fun i => (get x.cnt i).getD 0
  tr := trOf x
  went := x.s.went
def proj (M : MM) : PM where
  sends := fun k => match get M.sends k with
    | some r => r.l.map bare
    | none => []
  seen := fun k => (get M.seen k).getD false
  mems := fun k => get M.mems k
  stays := M.stays.map projS
  live := fun k => (get M.live k).getD false
  now := fun k => get M.now k
  broken := M.c.broken
  len := M.c.len
  at_ := M.c.at_
  rule := M.c.rule
def PM.br (P : PM) (r : Int) (b : Bool) : PM := { P with broken := brk r P.broken b }
def MM.br (M : MM) (r : Int) (b : Bool) : MM := { M with c := MBk r b M.c }
theorem proj_br (M : MM) (r : Int) (b : Bool) : proj (M.br r b) = (proj M).br r b := rfl
theorem br_ok {M : MM} (h : MOk M) (r : Int) (b : Bool) : MOk (M.br r b) := ⟨h.n, h.now⟩
/-- the parts behind the first one -/
def rest (M : MM) : List Pc := sendsPc M :: seenPc M :: memsPc M :: livePc M :: nowPc M :: rowP M :: (M.stays.flatMap stP ++ M.sends.map fun p => rowPc p.2)
theorem parts_eq (B : Nat) (M : MM) : parts B M = monPc B M.c :: rest M := rfl
section
variable {w : World} {B b0 : Nat} {M : MM} {R : List Pc}
theorem own_mon (h : Own w b0 (parts B M ++ R)) : MAt w B M.c := h.ok (monPc B M.c) (by simp [parts])
theorem own_sends (h : Own w b0 (parts B M ++ R)) : GMap placeV w M.c.sb (vals slV M.sends) := h.ok (sendsPc M) (by simp [parts])
theorem own_seen (h : Own w b0 (parts B M ++ R)) : GMap hadV w M.c.hb (vals (fun b : Bool => Value.bool b) M.seen) := h.ok (seenPc M) (by simp [parts])
theorem own_mems (h : Own w b0 (parts B M ++ R)) : GMap confV w M.c.eb (vals (fun n : Nat => Value.int .u64 (n : Int)) M.mems) := h.ok (memsPc M) (by simp [parts])
theorem own_live (h : Own w b0 (parts B M ++ R)) : GMap intV w M.c.lb (vals (fun b : Bool => Value.bool b) M.live) := h.ok (livePc M) (by simp [parts])
theorem own_now (h : Own w b0 (parts B M ++ R)) : GMap intV w M.c.nb (vals (nthV M.stays) M.now) := h.ok (nowPc M) (by simp [parts])
theorem own_ptrs (h : Own w b0 (parts B M ++ R)) : w.ownsRow 0 57 1 (.slice M.c.sa M.c.n M.c.sc) M.c.n (M.stays.map fun x => ptrV x.b) := h.ok (rowP M) (by simp [parts])
theorem own_in (h : Own w b0 (parts B M ++ R)) {x : SX} (hx : x ∈ M.stays) {p : Pc} (hp : p ∈ stP x) : p.ok w := h.ok p (by simp only [parts, List.mem_append, List.mem_cons, List.mem_flatMap]; exact .inl (.inr (.inr (.inr (.inr (.inr (.inr (.inr (.inl ⟨x, hx, hp⟩)))))))))
theorem own_stay (h : Own w b0 (parts B M ++ R)) {x : SX} (hx : x ∈ M.stays) : StAt w x.b x.s := (own_in h hx (p := stayPc x.b x.s x.ev) (by simp [stP])).1
theorem own_tr (h : Own w b0 (parts B M ++ R)) {x : SX} (hx : x ∈ M.stays) {b : Nat} (hb : x.s.tr = some b) : EvAt w b x.ev := (own_in h hx (p := stayPc x.b x.s x.ev) (by simp [stP])).2 b hb
theorem own_cnt (h : Own w b0 (parts B M ++ R)) {x : SX} (hx : x ∈ M.stays) : GMap intV w x.s.cb (vals intV x.cnt) := own_in h hx (p := mapPc intV x.s.cb (vals intV x.cnt)) (by simp [stP])
theorem own_r0 (h : Own w b0 (parts B M ++ R)) {x : SX} (hx : x ∈ M.stays) : RowOk w (r0 x) := own_in h hx (p := rowPc (r0 x)) (by simp [stP])
theorem own_r1 (h : Own w b0 (parts B M ++ R)) {x : SX} (hx : x ∈ M.stays) : RowOk w (r1 x) := own_in h hx (p := rowPc (r1 x)) (by simp [stP])
theorem own_snd (h : Own w b0 (parts B M ++ R)) {p : PlaceK × SR} (hp : p ∈ M.sends) : RowOk w p.2 := h.ok (rowPc p.2) (by simp only [parts, List.mem_append, List.mem_cons, List.mem_map]; exact .inl (.inr (.inr (.inr (.inr (.inr (.inr (.inr (.inr ⟨p, hp, rfl⟩)))))))))
end
theorem RowOk.row {w : World} {r : SR} (h : RowOk w r) (hl : r.l.length ≤ 9223372036854775807) : RowT w r.ad r.l := RowT.of_own h.1 hl h.2
/-- the monitor's own numbers change -/
theorem own_nums {w w' : World} {B b0 : Nat} {M : MM} {R : List Pc} (h : Own w b0 (parts B M ++ R)) (hb0 : b0 ≤ w.heap.size) (hk : Kept (fun k => k = B) w w') {b l a r : Int} (hc : MAt w' B { M.c with broken := b, len := l, at_ := a, rule := r }) :
    Own w' b0 (parts B { M with c := { M.c with broken := b, len := l, at_ := a, rule := r } } ++ R) ∧ Kept (fun k => b0 ≤ k) w w' := by
  have hk' : Kept (Reach w [monPc B M.c]) w w' := hk.more fun k _ e => .inl ⟨_, List.mem_singleton.2 rfl, by rw [e]; rfl⟩
  have h' : Own w b0 ([monPc B M.c] ++ (rest M ++ R)) := h
  refine ⟨h'.step hb0 hk' (L' := [monPc B { M.c with broken := b, len := l, at_ := a, rule := r }]) ⟨?_, fun _ _ _ _ => Nat.zero_le _, List.pairwise_singleton _ _⟩ ?_, Own.low (L := [monPc B M.c]) ⟨?_, ?_, List.pairwise_singleton _ _⟩ hb0 hk'⟩
  · intro p hp
    rw [List.mem_singleton.1 hp]
    exact hc
  · intro p hp b hb
    rw [List.mem_singleton.1 hp] at hb
    exact .inl ⟨_, List.mem_singleton.2 rfl, hb⟩
  · intro p hp
    exact h'.ok p (List.mem_append_left _ hp)
  · intro p hp
    exact h'.base p (List.mem_append_left _ hp)
theorem breaks_own {w : World} {B b0 : Nat} {M : MM} {R : List Pc} (h : Own w b0 (parts B M ++ R)) (hb0 : b0 ≤ w.heap.size) (r : Int) (b : Bool) :
    Calls Try.prog 20 #[.pointer (some ⟨B, 0, none⟩), .int .i64 r, .bool b] w fun e w' => e = .returned (.tuple #[]) ∧ Own w' b0 (parts B (M.br r b) ++ R) ∧ Kept (fun k => b0 ≤ k) w w' :=
  (breaks_any w B M.c (own_mon h) r b).mono fun e w' ⟨h1, h2, h3⟩ => ⟨h1, own_nums h hb0 h3 h2⟩
/-- the stay that an event stands in -/
def stayOf (M : MM) (x : Ev) : Option Nat := match get M.now x.proc with
  | none => none
  | some k => match M.stays[k]? with
    | none => none
    | some s => if (get M.live x.proc).getD false = true ∧ s.s.ce = x.ce ∧ s.s.cr = x.cr then some k else none
def pstay (P : PM) (x : Ev) : Option Nat := match P.now x.proc with
  | none => none
  | some k => match P.stays[k]? with
    | none => none
    | some s => if P.live x.proc = true ∧ s.conf = conf x then some k else none
theorem stayOf_proj (M : MM) (x : Ev) : stayOf M x = pstay (proj M) x := by
  unfold stayOf pstay
  simp only [proj]
  cases get M.now x.proc with
  | none => rfl
  | some k =>
    simp only [List.getElem?_map]
    cases M.stays[k]? with
    | none => rfl
    | some s =>
      simp only [Option.map_some, projS, conf, Prod.mk.injEq, Int.natCast_inj]
end Go.Proofs.Ytogagkgkmoppmaa
namespace Go.Proofs.Ytogagkgkmoppmaa
set_option linter.unusedVariables false
set_option linter.unusedSimpArgs false
open Go.RowKit GM
set_option maxRecDepth 100000 in
theorem confNeq (w : World) (a0 a1 b0 b1 : Int) : (Go.binOp .neq 30 (.agg #[.int .u64 a0, .int .i64 a1]) (.agg #[.int .u64 b0, .int .i64 b1])).run Try.prog w = .ok (.bool (!(a0 == b0 && a1 == b1))) w := by
  by_cases h0 : a0 = b0
  rotate_left
  · have d : (a0 == b0) = false := by simpa using h0
    rw [d]
    (try simp only [Bool.and_false, Bool.false_and])
    go_simp
  subst h0
  have e0 : (a0 == a0) = true := by simp
  by_cases h1 : a1 = b1
  rotate_left
  · have d : (a1 == b1) = false := by simpa using h1
    rw [d]
    (try simp only [Bool.and_false, Bool.false_and])
    go_simp
  subst h1
  have e1 : (a1 == a1) = true := by simp
  rw [e0, e1]
  (try simp only [Bool.and_self])
  go_simp
theorem live_look {w : World} {B b0 : Nat} {M : MM} {R : List Pc} (h : Own w b0 (parts B M ++ R)) (i : Int) : (Instr.lookup 51 (.map (some M.c.lb)) (.int .i64 i) false).run Try.prog w = .ok (.bool ((get M.live i).getD false)) w := by
  have := (own_live h).lookup (P := Try.prog) Try.underlying51 intLaw (z := .bool false) (by kernel_rfl) i
  rw [get_vals] at this
  rw [this]
  cases get M.live i <;> rfl
theorem now_look {w : World} {B b0 : Nat} {M : MM} {R : List Pc} (h : Own w b0 (parts B M ++ R)) (i : Int) : (Instr.lookup 52 (.map (some M.c.nb)) (.int .i64 i) false).run Try.prog w = .ok (((get M.now i).map (nthV M.stays)).getD (.pointer none)) w := by
  have := (own_now h).lookup (P := Try.prog) Try.underlying52 intLaw (z := .pointer none) (by kernel_rfl) i
  rw [get_vals] at this
  exact this
theorem now_lt {M : MM} (h : MOk M) {i : Int} {k : Nat} (hk : get M.now i = some k) : k < M.stays.length := by
  unfold GM.get at hk
  cases hf : M.now.find? (fun x => decide (x.1 = i)) with
  | none => rw [hf] at hk; cases hk
  | some p =>
    rw [hf] at hk
    injection hk with hk
    rw [← hk]
    exact h.now p (List.mem_of_find?_eq_some hf)
theorem nth_at {l : List SX} {k : Nat} (h : k < l.length) : nthV l k = ptrV l[k].b := by
  unfold nthV
  simp [h]
set_option maxHeartbeats 4000000 in
theorem stay_any (w : World) (B b0 : Nat) (M : MM) (R : List Pc) (hO : Own w b0 (parts B M ++ R)) (hM : MOk M) (hb0 : b0 ≤ w.heap.size) (x : Ev) :
    Calls Try.prog 19 #[.pointer (some ⟨B, 0, none⟩), .agg (evA x)] w fun e w' =>
      (∃ k, ∃ hk : k < M.stays.length, stayOf M x = some k ∧ e = .returned (ptrV M.stays[k].b) ∧ Below w.heap.size w w') ∨
      (stayOf M x = none ∧ e = .returned (.pointer none) ∧ Own w' b0 (parts B (M.br 1 true) ++ R) ∧ Kept (fun k => b0 ≤ k) w w') := by
  obtain ⟨w1, hw1⟩ : ∃ w1, w1 = w.alloc (.cells (evA x) 39) := ⟨_, rfl⟩
  have hb1 : Below w.heap.size w w1 := by rw [hw1]; exact ba (br w) _
  have hx1 : w1.heap[w.heap.size]? = some (.cells (evA x) 39 (0, 0)) := by rw [hw1]; exact heap_alloc_new w _
  obtain ⟨X, hX⟩ : ∃ X, X = w.heap.size := ⟨_, rfl⟩
  rw [← hX] at hx1
  have hO1 := hO.below hb1
  have hX1 : X < w1.heap.size := (Array.getElem?_eq_some_iff.1 hx1).1
  have hB1 := (own_mon hO1).lt
  have c4 := Bel.cell (show w1.cell? ⟨B, 4, none⟩ = some (.map (some M.c.lb)) from cell_of_row _ _ 4 _ _ _ (own_mon hO1)) hB1
  have c5 := Bel.cell (show w1.cell? ⟨B, 5, none⟩ = some (.map (some M.c.nb)) from cell_of_row _ _ 5 _ _ _ (own_mon hO1)) hB1
  have e1 := Bel.cell (show w1.cell? ⟨X, 1, none⟩ = some (.int .i64 x.proc) from cell_of_row _ _ 1 _ _ _ hx1) hX1
  have e2 := Bel.cell (show w1.cell? ⟨X, 2, none⟩ = some (.int .u64 (x.ce : Int)) from cell_of_row _ _ 2 _ _ _ hx1) hX1
  have e3 := Bel.cell (show w1.cell? ⟨X, 3, none⟩ = some (.int .i64 x.cr) from cell_of_row _ _ 3 _ _ _ hx1) hX1
  have hlv : ∀ y : Bel w1, (Instr.lookup 51 (.map (some M.c.lb)) (.int .i64 x.proc) false).run Try.prog y.val = .ok (.bool ((get M.live x.proc).getD false)) y.val := fun y => live_look (hO1.below y.prop) _
  have hnw : ∀ y : Bel w1, (Instr.lookup 52 (.map (some M.c.nb)) (.int .i64 x.proc) false).run Try.prog y.val = .ok (((get M.now x.proc).map (nthV M.stays)).getD (.pointer none)) y.val := fun y => now_look (hO1.below y.prop) _
  have hK := Lib.hid (And.intro hO1 (And.intro hb1 (And.intro hM hb0)))
  have fail1 : ∀ (w2 : World), Below w1.heap.size w1 w2 → Calls Try.prog 20 #[.pointer (some ⟨B, 0, none⟩), .int .i64 1, .bool true] w2 fun e w' => e = .returned (.tuple #[]) ∧ Own w' b0 (parts B (M.br 1 true) ++ R) ∧ Kept (fun k => b0 ≤ k) w w' := fun w2 hb2 =>
    (breaks_own (hK.out.1.below hb2) (Nat.le_trans hK.out.2.2.2 (bt hK.out.2.1 hb2).size) 1 true).mono fun e w' ⟨h1, h2, h3⟩ => ⟨h1, h2, (Kept.of_below (bt hK.out.2.1 hb2)).trans h3⟩
  have HF := Lib.hid fail1
  obtain ⟨cx, hcx⟩ : ∃ cx, cx = evA x := ⟨_, rfl⟩
  obtain ⟨lb, hlb⟩ : ∃ lb, lb = M.c.lb := ⟨_, rfl⟩
  obtain ⟨nb, hnb⟩ : ∃ nb, nb = M.c.nb := ⟨_, rfl⟩
  obtain ⟨proc, hproc⟩ : ∃ p, p = x.proc := ⟨_, rfl⟩
  obtain ⟨ce, hce⟩ : ∃ p, p = x.ce := ⟨_, rfl⟩
  obtain ⟨cr, hcr⟩ : ∃ p, p = x.cr := ⟨_, rfl⟩
  have hs : stayOf M x = match get M.now proc with
    | none => none
    | some k => match M.stays[k]? with
      | none => none
      | some s => if (get M.live proc).getD false = true ∧ s.s.ce = ce ∧ s.s.cr = cr then some k else none := by rw [hproc, hce, hcr]; rfl
  have z1 : cx.all (·.oneCell') = true := by rw [hcx]; simp [evA, Value.oneCell']
  have z2 : cx.size = 19 := by rw [hcx]; rfl
  rw [← hcx] at hw1 ⊢
  have HCX := Lib.hid hcx
  rw [← hlb, ← hproc] at hlv
  rw [← hnb, ← hproc] at hnw
  rw [← hlb] at c4
  rw [← hnb] at c5
  rw [← hproc] at e1
  rw [← hce] at e2
  rw [← hcr] at e3
  rw [hs]
  clear hcx hx1 fail1 hlb hnb hproc hce hcr hs hO1 hb1 hM hb0 hO
  cases hn : get M.now proc with
  | none =>
    rw [hn] at hnw
    simp only [Option.map_none, Option.getD_none] at hnw
    go_enter Try.func19, Try.ntmps19
    go_wp2_with fail
    rw [← hw1, ← hX]
    clear hw1 hX
    refine wp_region_bel (by kernel_rfl) (by kernel_rfl) ?_
    repeat (go_big_quiet_step ((fail)))
    refine wpQuiet_nil ?_
    intro w2 hw2
    have hb2 := bel_out hw2
    clear hw2 hnw
    have c4 : ∀ y : Bel w2, y.val.cell? ⟨B, 4, none⟩ = _ := fun y => c4 ⟨y.val, bt hb2 y.prop⟩
    have e1 : ∀ y : Bel w2, y.val.cell? ⟨X, 1, none⟩ = _ := fun y => e1 ⟨y.val, bt hb2 y.prop⟩
    have hlv : ∀ y : Bel w2, (Instr.lookup 51 (.map (some lb)) (.int .i64 proc) false).run Try.prog y.val = .ok (.bool ((get M.live proc).getD false)) y.val := fun y => hlv ⟨y.val, bt hb2 y.prop⟩
    clear c5 e2 e3
    generalize (get M.live proc).getD false = L at *
    cases L
    all_goals
      go_wp2_with fail
      refine wp_region_bel (by kernel_rfl) (by kernel_rfl) ?_
      repeat (go_big_quiet_step ((fail)))
      refine wpQuiet_nil ?_
      intro w3 hw3
      have hb3 := bt hb2 (bel_out hw3)
      have HG := Lib.hid (HF.out w3 hb3)
      clear hw3 hlv c4 e1
      go_wp2_with fail
      refine HG.out.mono ?_
      rintro e w4 ⟨rfl, hE⟩
      have HE := Lib.hid hE
      clear hE
      go_wp2_with fail
      go_ret
      exact Or.inr ⟨trivial, rfl, HE.out⟩
  | some k =>
    have hkl := now_lt hK.out.2.2.1 hn
    rw [hn] at hnw
    simp only [Option.map_some, Option.getD_some, nth_at hkl] at hnw
    have hst := own_stay hK.out.1 (List.getElem_mem hkl)
    simp only [List.getElem?_eq_getElem hkl]
    obtain ⟨s, hs⟩ : ∃ s, s = M.stays[k] := ⟨_, rfl⟩
    rw [← hs] at hst hnw ⊢
    have s2 := Bel.cell (show w1.cell? ⟨s.b, 1, none⟩ = some (.int .u64 (s.s.ce : Int)) from cell_of_row _ _ 1 _ _ _ hst) hst.lt
    have s3 := Bel.cell (show w1.cell? ⟨s.b, 2, none⟩ = some (.int .i64 s.s.cr) from cell_of_row _ _ 2 _ _ _ hst) hst.lt
    have hcn := fun (W : World) => confNeq W (s.s.ce : Int) s.s.cr (ce : Int) cr
    have HD := Lib.hid (show (!(((s.s.ce : Int) == (ce : Int)) && (s.s.cr == cr))) = false ↔ s.s.ce = ce ∧ s.s.cr = cr from by simp [Int.natCast_inj])
    obtain ⟨I, hI⟩ : ∃ I, I = (if (get M.live proc).getD false = true ∧ s.s.ce = ce ∧ s.s.cr = cr then some k else none) := ⟨_, rfl⟩
    rw [← hI]
    have HI := Lib.hid hI
    clear hI
    generalize (!(((s.s.ce : Int) == (ce : Int)) && (s.s.cr == cr))) = D at *
    have hfin : ∃ kk, ∃ hk : kk < M.stays.length, (some k : Option Nat) = some kk ∧ ptrV s.b = ptrV M.stays[kk].b := ⟨k, hkl, rfl, by rw [hs]⟩
    have HFin := Lib.hid hfin
    clear hst hs hfin
    generalize s.s.ce = ce' at *
    generalize s.s.cr = cr' at *
    unfold ptrV at hnw
    generalize s.b = S at *
    go_enter Try.func19, Try.ntmps19
    go_wp2_with fail
    rw [← hw1, ← hX]
    clear hw1 hX
    refine wp_region_bel (by kernel_rfl) (by kernel_rfl) ?_
    repeat (go_big_quiet_step ((fail)))
    refine wpQuiet_nil ?_
    intro w2 hw2
    have hb2 := bel_out hw2
    clear hw2 hnw
    have c4 : ∀ y : Bel w2, y.val.cell? ⟨B, 4, none⟩ = _ := fun y => c4 ⟨y.val, bt hb2 y.prop⟩
    have e1 : ∀ y : Bel w2, y.val.cell? ⟨X, 1, none⟩ = _ := fun y => e1 ⟨y.val, bt hb2 y.prop⟩
    have e2 : ∀ y : Bel w2, y.val.cell? ⟨X, 2, none⟩ = _ := fun y => e2 ⟨y.val, bt hb2 y.prop⟩
    have e3 : ∀ y : Bel w2, y.val.cell? ⟨X, 3, none⟩ = _ := fun y => e3 ⟨y.val, bt hb2 y.prop⟩
    have s2 : ∀ y : Bel w2, y.val.cell? ⟨S, 1, none⟩ = _ := fun y => s2 ⟨y.val, bt hb2 y.prop⟩
    have s3 : ∀ y : Bel w2, y.val.cell? ⟨S, 2, none⟩ = _ := fun y => s3 ⟨y.val, bt hb2 y.prop⟩
    have hlv : ∀ y : Bel w2, (Instr.lookup 51 (.map (some lb)) (.int .i64 proc) false).run Try.prog y.val = .ok (.bool ((get M.live proc).getD false)) y.val := fun y => hlv ⟨y.val, bt hb2 y.prop⟩
    clear c5
    generalize (get M.live proc).getD false = L at *
    by_cases hq : L = true ∧ D = false
    · obtain ⟨rfl, rfl⟩ := hq
      have HJ := Lib.hid (HI.out.trans (if_pos ⟨rfl, HD.out.1 rfl⟩))
      clear HI
      go_wp2_with fail
      refine wp_region_bel (by kernel_rfl) (by kernel_rfl) ?_
      repeat (go_big_quiet_step ((fail)))
      refine wpQuiet_nil ?_
      intro w3 hw3
      have hb3 := bt hb2 (bel_out hw3)
      have HB := Lib.hid (bt hK.out.2.1 hb3)
      clear hw3 hlv c4 e1
      go_wp2_with fail
      go_ret
      obtain ⟨kk, hk, h1, h2⟩ := HFin.out
      refine Or.inl ⟨kk, hk, HJ.out.trans h1, ?_, HB.out⟩
      rw [← h2]
      rfl
    · have HJ := Lib.hid (HI.out.trans (if_neg (fun h => hq ⟨h.1, HD.out.2 h.2⟩)))
      clear HI
      clear HD HFin
      cases L
      rotate_left
      all_goals try (cases D; (exact absurd ⟨rfl, rfl⟩ hq))
      all_goals
        clear hq
        go_wp2_with fail
        refine wp_region_bel (by kernel_rfl) (by kernel_rfl) ?_
        repeat (go_big_quiet_step ((fail)))
        refine wpQuiet_nil ?_
        intro w3 hw3
        have hb3 := bt hb2 (bel_out hw3)
        have HG := Lib.hid (HF.out w3 hb3)
        clear hw3 hlv c4 e1 e2 e3 s2 s3 hcn
        go_wp2_with fail
        refine HG.out.mono ?_
        rintro e w4 ⟨rfl, hE⟩
        have HE := Lib.hid hE
        clear hE
        go_wp2_with fail
        go_ret
        exact Or.inr ⟨HJ.out, rfl, HE.out⟩
end Go.Proofs.Ytogagkgkmoppmaa
