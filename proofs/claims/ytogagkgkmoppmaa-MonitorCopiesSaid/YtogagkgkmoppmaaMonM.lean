/-
  A monitor's plain state (PM) and what a monitor in memory says of it; the parts of a monitor that is owned; breaks.
  Conditions: those that each theorem names.
-/
import Derived.Test.YtogagkgkmoppmaaMonL
namespace Go.Proofs.Ytogagkgkmoppmaa
set_option linter.unusedVariables false
set_option linter.unusedSimpArgs false
open Go.RowKit GM
/-- a message without its place -/
def bare (m : Msg) : Msg := { m with da := none, dc := 0 }
theorem sameM_bare (a b : Msg) : sameM (bare a) (bare b) = sameM a b := rfl
structure PS where
  proc : Int
  conf : ConfK
  mem : Nat
  p0 : List Msg
  p1 : List Msg
  cnt : Int → Int
  tr : Option (ConfK × Nat)
  went : Bool
structure PM where
  sends : PlaceK → List Msg
  seen : HadK → Bool
  mems : ConfK → Option Nat
  stays : List PS
  live : Int → Bool
  now : Int → Option Nat
  broken : Int
  len : Int
  at_ : Int
  rule : Int
def conf (x : Ev) : ConfK := ((x.ce : Int), x.cr)
def next (x : Ev) : ConfK := ((x.ne : Int), x.nr)
def trOf (x : SX) : Option (ConfK × Nat) := if x.s.tr.isSome = true then some (next x.ev, x.ev.mem) else none
def projS (x : SX) : PS where
  proc := x.s.proc
  conf := ((x.s.ce : Int), x.s.cr)
  mem := x.s.mem
  p0 := x.s.p0.map bare
  p1 := x.s.p1.map bare
  cnt := fun i => (get x.cnt i).getD 0
  tr := trOf x
  went := x.s.went
def proj (M : MM) : PM where
  sends := fun k => match get M.sends k with
    | some r => r.l.map bare
    | none => []
  seen := fun k => (get M.seen k).getD false
  mems := fun k => get M.mems k
  stays := M.stays.map projS
  live := fun k => (get M.live k).getD false
  now := fun k => get M.now k
  broken := M.c.broken
  len := M.c.len
  at_ := M.c.at_
  rule := M.c.rule
def PM.br (P : PM) (r : Int) (b : Bool) : PM := { P with broken := brk r P.broken b }
def MM.br (M : MM) (r : Int) (b : Bool) : MM := { M with c := MBk r b M.c }
theorem proj_br (M : MM) (r : Int) (b : Bool) : proj (M.br r b) = (proj M).br r b := rfl
theorem br_ok {M : MM} (h : MOk M) (r : Int) (b : Bool) : MOk (M.br r b) := ⟨h.n, h.now⟩
/-- the parts behind the first one -/
def rest (M : MM) : List Pc := sendsPc M :: seenPc M :: memsPc M :: livePc M :: nowPc M :: rowP M :: (M.stays.flatMap stP ++ M.sends.map fun p => rowPc p.2)
theorem parts_eq (B : Nat) (M : MM) : parts B M = monPc B M.c :: rest M := rfl
section
variable {w : World} {B b0 : Nat} {M : MM} {R : List Pc}
theorem own_mon (h : Own w b0 (parts B M ++ R)) : MAt w B M.c := h.ok (monPc B M.c) (by simp [parts])
theorem own_sends (h : Own w b0 (parts B M ++ R)) : GMap placeV w M.c.sb (vals slV M.sends) := h.ok (sendsPc M) (by simp [parts])
theorem own_seen (h : Own w b0 (parts B M ++ R)) : GMap hadV w M.c.hb (vals (fun b : Bool => Value.bool b) M.seen) := h.ok (seenPc M) (by simp [parts])
theorem own_mems (h : Own w b0 (parts B M ++ R)) : GMap confV w M.c.eb (vals (fun n : Nat => Value.int .u64 (n : Int)) M.mems) := h.ok (memsPc M) (by simp [parts])
theorem own_live (h : Own w b0 (parts B M ++ R)) : GMap intV w M.c.lb (vals (fun b : Bool => Value.bool b) M.live) := h.ok (livePc M) (by simp [parts])
theorem own_now (h : Own w b0 (parts B M ++ R)) : GMap intV w M.c.nb (vals (nthV M.stays) M.now) := h.ok (nowPc M) (by simp [parts])
theorem own_ptrs (h : Own w b0 (parts B M ++ R)) : w.ownsRow 0 57 1 (.slice M.c.sa M.c.n M.c.sc) M.c.n (M.stays.map fun x => ptrV x.b) := h.ok (rowP M) (by simp [parts])
theorem own_in (h : Own w b0 (parts B M ++ R)) {x : SX} (hx : x ∈ M.stays) {p : Pc} (hp : p ∈ stP x) : p.ok w := h.ok p (by simp only [parts, List.mem_append, List.mem_cons, List.mem_flatMap]; exact .inl (.inr (.inr (.inr (.inr (.inr (.inr (.inr (.inl ⟨x, hx, hp⟩)))))))))
theorem own_stay (h : Own w b0 (parts B M ++ R)) {x : SX} (hx : x ∈ M.stays) : StAt w x.b x.s := (own_in h hx (p := stayPc x.b x.s x.ev) (by simp [stP])).1
theorem own_tr (h : Own w b0 (parts B M ++ R)) {x : SX} (hx : x ∈ M.stays) {b : Nat} (hb : x.s.tr = some b) : EvAt w b x.ev := (own_in h hx (p := stayPc x.b x.s x.ev) (by simp [stP])).2 b hb
theorem own_cnt (h : Own w b0 (parts B M ++ R)) {x : SX} (hx : x ∈ M.stays) : GMap intV w x.s.cb (vals intV x.cnt) := own_in h hx (p := mapPc intV x.s.cb (vals intV x.cnt)) (by simp [stP])
theorem own_r0 (h : Own w b0 (parts B M ++ R)) {x : SX} (hx : x ∈ M.stays) : RowOk w (r0 x) := own_in h hx (p := rowPc (r0 x)) (by simp [stP])
theorem own_r1 (h : Own w b0 (parts B M ++ R)) {x : SX} (hx : x ∈ M.stays) : RowOk w (r1 x) := own_in h hx (p := rowPc (r1 x)) (by simp [stP])
theorem own_snd (h : Own w b0 (parts B M ++ R)) {p : PlaceK × SR} (hp : p ∈ M.sends) : RowOk w p.2 := h.ok (rowPc p.2) (by simp only [parts, List.mem_append, List.mem_cons, List.mem_map]; exact .inl (.inr (.inr (.inr (.inr (.inr (.inr (.inr (.inr ⟨p, hp, rfl⟩)))))))))
end
theorem RowOk.row {w : World} {r : SR} (h : RowOk w r) (hl : r.l.length ≤ 9223372036854775807) : RowT w r.ad r.l := RowT.of_own h.1 hl h.2
/-- the monitor's own numbers change -/
theorem own_nums {w w' : World} {B b0 : Nat} {M : MM} {R : List Pc} (h : Own w b0 (parts B M ++ R)) (hb0 : b0 ≤ w.heap.size) (hk : Kept (fun k => k = B) w w') {b l a r : Int} (hc : MAt w' B { M.c with broken := b, len := l, at_ := a, rule := r }) :
    Own w' b0 (parts B { M with c := { M.c with broken := b, len := l, at_ := a, rule := r } } ++ R) ∧ Kept (fun k => b0 ≤ k) w w' := by
  have hk' : Kept (Reach w [monPc B M.c]) w w' := hk.more fun k _ e => .inl ⟨_, List.mem_singleton.2 rfl, by rw [e]; rfl⟩
  have h' : Own w b0 ([monPc B M.c] ++ (rest M ++ R)) := h
  refine ⟨h'.step hb0 hk' (L' := [monPc B { M.c with broken := b, len := l, at_ := a, rule := r }]) ⟨?_, fun _ _ _ _ => Nat.zero_le _, List.pairwise_singleton _ _⟩ ?_, Own.low (L := [monPc B M.c]) ⟨?_, ?_, List.pairwise_singleton _ _⟩ hb0 hk'⟩
  · intro p hp
    rw [List.mem_singleton.1 hp]
    exact hc
  · intro p hp b hb
    rw [List.mem_singleton.1 hp] at hb
    exact .inl ⟨_, List.mem_singleton.2 rfl, hb⟩
  · intro p hp
    exact h'.ok p (List.mem_append_left _ hp)
  · intro p hp
    exact h'.base p (List.mem_append_left _ hp)
theorem breaks_own {w : World} {B b0 : Nat} {M : MM} {R : List Pc} (h : Own w b0 (parts B M ++ R)) (hb0 : b0 ≤ w.heap.size) (r : Int) (b : Bool) :
    Calls Try.prog 20 #[.pointer (some ⟨B, 0, none⟩), .int .i64 r, .bool b] w fun e w' => e = .returned (.tuple #[]) ∧ Own w' b0 (parts B (M.br r b) ++ R) ∧ Kept (fun k => b0 ≤ k) w w' :=
  (breaks_any w B M.c (own_mon h) r b).mono fun e w' ⟨h1, h2, h3⟩ => ⟨h1, own_nums h hb0 h3 h2⟩
/-- the stay that an event stands in -/
def stayOf (M : MM) (x : Ev) : Option Nat := match get M.now x.proc with
  | none => none
  | some k => match M.stays[k]? with
    | none => none
    | some s => if (get M.live x.proc).getD false = true ∧ s.s.ce = x.ce ∧ s.s.cr = x.cr then some k else none
def pstay (P : PM) (x : Ev) : Option Nat := match P.now x.proc with
  | none => none
  | some k => match P.stays[k]? with
    | none => none
    | some s => if P.live x.proc = true ∧ s.conf = conf x then some k else none
theorem stayOf_proj (M : MM) (x : Ev) : stayOf M x = pstay (proj M) x := by
  unfold stayOf pstay
  simp only [proj]
  cases get M.now x.proc with
  | none => rfl
  | some k =>
    simp only [List.getElem?_map]
    cases M.stays[k]? with
    | none => rfl
    | some s =>
      simp only [Option.map_some, projS, conf, Prod.mk.injEq, Int.natCast_inj]
end Go.Proofs.Ytogagkgkmoppmaa
