/-
  The judge, in plain: what it makes of a trace.
  Conditions: none.
-/
import Derived.Test.YtogagkgkmoppmaaGreatDoorMonBZs
import Derived.Maps.RangeRun
import Derived.RangeFuncNested
import Derived.RangeFuncBound
import Derived.RangeFuncCalls
import Derived.RangeFuncLeaves
import Derived.OwnWalkIn
import Derived.TacticsInMore
import Derived.LoopNIn
import Derived.LoopIn
namespace Go.Proofs.YtogagkgkmoppmaaGreatDoor
set_option linter.unusedVariables false
set_option linter.unusedSimpArgs false
open Go.RowKit GM
abbrev NameK := Int × Nat
/-- one of a life in a configuration; gots and ups: which events of the trace -/
structure JS where
  proc : Int
  cf : ConfK
  mem : Nat
  gots : List (Nat × Bool)
  tr : Option Nat
  nx : Option Nat
  vw : Option Nat
  va : Nat
  rd : Option Nat
  ups : List Nat
  out : Bool
  bf : Option Nat
structure J where
  stays : List JS
  live : List (Int × Bool)
  now : List (Int × Nat)
  bad : List (Int × Bool)
  named : Int
def J0 : J := ⟨[], [], [], [], 0⟩
def J.br (t : J) (r : Int) (b : Bool) : J := if b = true then { t with bad := put t.bad r true } else t
def wrongZ (r z : Int) (b : Bool) : Int := if b = true ∧ (z = 0 ∨ r < z) then r else z
def J.wr (t : J) (r : Int) (b : Bool) : J := { t with named := wrongZ r t.named b }
def J.setS (t : J) (k : Nat) (s : JS) : J := { t with stays := t.stays.set k s }
theorem J.br_stays (t : J) (r : Int) (b : Bool) : (t.br r b).stays = t.stays ∧ (t.br r b).live = t.live ∧ (t.br r b).now = t.now ∧ (t.br r b).named = t.named := by
  unfold J.br
  split <;> exact ⟨rfl, rfl, rfl, rfl⟩
section
variable (l : List Ev) (nm : Nat → List NameK)
def evN (i : Nat) : ConfK := match l[i]? with
  | some x => next x
  | none => (0, 0)
def evM (i : Nat) : Nat := match l[i]? with
  | some x => x.mem
  | none => 0
def evMsg (i : Nat) : Msg := match l[i]? with
  | some x => x.m
  | none => zeroM
def dupJ (x : Ev) (o : JS) : Bool := decide (o.cf = conf x) && (!(o.mem == x.mem) || decide (o.proc = x.proc))
def J.dups (x : Ev) (L : List JS) (t : J) : J := L.foldl (fun t o => t.br 1 (dupJ x o)) t
def wayJ (x : Ev) (o : JS) : Bool := match o.tr with
  | none => true
  | some e => (!decide (evN l e = conf x) || !inB (evM l e) x.mem) || !hasB (evM l e) x.proc
def J.went (t : J) (x : Ev) (i : Nat) (b : Option Nat) : J := match b with
  | none => t
  | some k => match t.stays[k]? with
    | none => t
    | some o => ((t.setS k { o with nx := some i }).br 1 (decide (keyZ (x.ce : Int) x.cr o.cf.1 o.cf.2 ≤ 0))).br 1 (wayJ l x o)
def newJ (x : Ev) (b : Option Nat) : JS := ⟨x.proc, conf x, x.mem, [], none, none, none, 0, none, [], false, b⟩
def J.enter (t : J) (x : Ev) (b : Option Nat) : J := { t with now := put t.now x.proc t.stays.length, stays := t.stays ++ [newJ x b] }
def J.regular (t : J) (i : Nat) (x : Ev) (lv : Bool) (b : Option Nat) : J := (((t.br 1 (!lv || !hasB x.mem x.proc)).dups x t.stays).went l x i b).enter x b
def newOf (o : JS) : ConfK := match o.tr with
  | none => (0, 0)
  | some e => evN l e
def J.innerAt (t : J) (i : Nat) (x : Ev) (k : Nat) (o : JS) : J :=
  if x.kind = 1 then t.br 1 o.tr.isSome
  else if x.kind = 4 then (t.br 1 o.tr.isSome).setS k { o with tr := some i }
  else if x.kind = 2 then (t.br 2 (!decide (next x = newOf l o))).setS k { o with gots := o.gots ++ [(i, o.tr.isSome)] }
  else t
def J.inner (t : J) (i : Nat) (x : Ev) (lv : Bool) (s : Option Nat) : J := match s with
  | none => t.br 1 true
  | some k => match t.stays[k]? with
    | none => t
    | some o => if lv = true ∧ o.cf = conf x then t.innerAt l i x k o else t.br 1 true
def viewK (x : Ev) : Nat × Nat × Int × Nat := (x.vn, x.vce, x.vcr, x.vm)
def name0 (i : Nat) : NameK := (nm i).headD (0, 0)
/-- may the event not be the incarnation's? -/
def strange (i : Nat) (x : Ev) (o : JS) : Bool := match o.vw with
  | none => true
  | some v => (((o.out || !((nm i).length == 1)) || !decide ((name0 nm i).1 = x.proc)) || !(nm v).contains (name0 nm i)) || (match l[v]? with
    | none => true
    | some y => !decide (viewK x = viewK y))
def J.mineAt (t : J) (x : Ev) (s : Option Nat) : Option Nat := match s with
  | none => none
  | some k => match t.stays[k]? with
    | none => none
    | some o => if x.kind = 12 ∧ o.vw = none ∧ o.bf.isSome = true then o.bf else some k
def J.mineTo (t : J) (i : Nat) (x : Ev) (k : Nat) (o : JS) : J :=
  if x.kind = 11 then (t.wr 3 o.rd.isSome).setS k { o with rd := some i }
  else if x.kind = 8 then t.wr 3 o.rd.isNone
  else if x.kind = 9 then (t.wr 3 o.rd.isNone).setS k { o with ups := o.ups ++ [i] }
  else if x.kind = 12 then t.setS k { o with out := true }
  else t
def J.mine (t : J) (i : Nat) (x : Ev) (s : Option Nat) : J := match t.mineAt x s with
  | none => t.wr 3 true
  | some k => match t.stays[k]? with
    | none => t
    | some o => if strange l nm i x o = true then t.wr 3 true else t.mineTo i x k o
def J.upper (t : J) (i : Nat) (x : Ev) (s : Option Nat) : J :=
  if x.kind = 7 then match s with
    | none => t
    | some k => match t.stays[k]? with
      | none => t
      | some o => t.setS k { o with vw := some i, va := i, rd := none, out := false }
  else if x.kind = 11 ∨ x.kind = 8 ∨ x.kind = 9 ∨ x.kind = 10 ∨ x.kind = 12 then t.mine l nm i x s
  else t
def J.step (t : J) (i : Nat) (x : Ev) : J :=
  if x.kind = 5 then { t with live := put t.live x.proc true, now := del t.now x.proc }
  else if x.kind = 6 then { t with live := put t.live x.proc false, now := del t.now x.proc }
  else if x.kind = 3 then t.regular l i x ((get t.live x.proc).getD false) (get t.now x.proc)
  else if x.kind = 1 ∨ x.kind = 2 ∨ x.kind = 4 then t.inner l i x ((get t.live x.proc).getD false) (get t.now x.proc)
  else t.upper l nm i x (get t.now x.proc)
def thru : Nat → J
  | 0 => J0
  | n + 1 => match l[n]? with
    | none => thru n
    | some x => (thru n).step l nm n x
/-- rule 2: of how many EvSend a delivery stands behind -/
def isSend (x : Ev) : Bool := decide (x.kind = 1) && decide (x.proc = x.m.frm)
def sentAt (k : PlaceK) (j : Nat) : Bool := match l[j]? with
  | none => false
  | some y => isSend y && decide (place y = k)
def sentL (n : Nat) (k : PlaceK) : List Nat := (List.range n).filter (sentAt l k)
def cntJ (n : Nat) (x : Ev) : Nat := ((sentL l n (place x)).filter fun j => sameM (evMsg l j) x.m).length
def J.behind1 (t : J) (i : Nat) : J := match l[i]? with
  | none => t
  | some x => if isSend x = true then t else if x.kind = 2 then t.br 2 (!(cntJ l i x == 1)) else t
def J.behind (t : J) : Nat → J
  | 0 => t
  | n + 1 => (J.behind t n).behind1 l n
/-- rule 3: twice; keys; rule 4: what it had delivered -/
def hadJ (x : Ev) : HadK := (x.proc, (x.ce : Int), x.cr, x.m.frm, (x.m.seq : Int))
def hadAt (k : HadK) (j : Nat) : Bool := match l[j]? with
  | none => false
  | some y => decide (y.kind = 2) && decide (hadJ y = k)
def J.twice1 (t : J) (i : Nat) : J := match l[i]? with
  | none => t
  | some x => if x.kind = 2 then t.br 3 ((List.range i).any (hadAt l (hadJ x))) else t
def J.twice (t : J) : Nat → J
  | 0 => t
  | n + 1 => (J.twice t n).twice1 l n
def gotM (g : Nat × Bool) : Msg := evMsg l g.1
def cntG (L : List (Nat × Bool)) (q : Int) : Nat := (L.filter fun g => decide ((gotM l g).frm = q)).length
def lessJ (a b : Msg) : Bool := decide (0 ≤ keyZ (a.stamp : Int) a.frm (b.stamp : Int) b.frm)
def J.deps (t : J) (L : List (Nat × Bool)) (ds : List Nat) : Nat → J
  | 0 => t
  | n + 1 => (J.deps t L ds n).br 4 (decide ((cntG l L (n : Int) : Int) < ((ds.getD n 0 : Nat) : Int)))
def J.keys1 (t : J) (L : List (Nat × Bool)) (i : Nat) : J := match L[i]? with
  | none => t
  | some g => (t.br 3 (match L[i - 1]? with
    | none => false
    | some p => decide (0 < i) && lessJ (gotM l p) (gotM l g))).deps l (L.take i) (gotM l g).ds (gotM l g).ds.length
def J.keys (t : J) (L : List (Nat × Bool)) : Nat → J
  | 0 => t
  | n + 1 => (J.keys t L n).keys1 l L n
def J.once (t : J) : Nat → J
  | 0 => t
  | n + 1 => match t.stays[n]? with
    | none => J.once t n
    | some s => (J.once t n).keys l s.gots s.gots.length
/-- rules 5 and 6 -/
def partJ (o : JS) (b : Bool) : List Msg := (o.gots.filter fun g => g.2 == b).map (gotM l)
def pairJ (a b : JS) : Bool := decide (a.cf = b.cf) && !decide (a.proc = b.proc) && a.nx.isSome && b.nx.isSome && (match a.tr, b.tr with
  | some e, some f => decide (evN l e = evN l f)
  | _, _ => false)
def diffJ (a b : JS) : Bool := (!(newMem a == newMem b) || !sameL (partJ l a false) (partJ l b false)) || !sameL (partJ l a true) (partJ l b true)
where newMem (o : JS) : Nat := match o.tr with
  | none => 0
  | some e => evM l e
def J.pair (t : J) (a b : JS) : J := if pairJ l a b = true then t.br 5 (diffJ l a b) else t
def J.pairs (t : J) (a : JS) : Nat → J
  | 0 => t
  | n + 1 => match t.stays[n]? with
    | none => J.pairs t a n
    | some b => (J.pairs t a n).pair l a b
def hasJ (o : JS) (m : Msg) : Bool := o.gots.any fun g => sameM (gotM l g) m
def memJ (a : JS) (g : Nat × Bool) : Nat := if g.2 = true then (match a.tr with
  | none => 0
  | some e => evM l e) else a.mem
def J.safe1 (t : J) (a b : JS) (i : Nat) : J := match a.gots[i]? with
  | none => t
  | some g => t.br 6 ((decide ((gotM l g).service = 2) && hasB (memJ l a g) b.proc) && !hasJ l b (gotM l g))
def J.safe (t : J) (a b : JS) : Nat → J
  | 0 => t
  | n + 1 => (J.safe t a b n).safe1 l a b n
def J.safes (t : J) (a : JS) : Nat → J
  | 0 => t
  | n + 1 => match t.stays[n]? with
    | none => J.safes t a n
    | some b => if decide (a.cf = b.cf) && b.nx.isSome then (J.safes t a n).safe l a b a.gots.length else J.safes t a n
def J.tog1 (t : J) (i : Nat) : J := match t.stays[i]? with
  | none => t
  | some a => (t.pairs l a i).safes l a t.stays.length
def J.tog (t : J) : Nat → J
  | 0 => t
  | n + 1 => (J.tog t n).tog1 l n
/-- the first rule that is broken -/
def firstBad (t : J) : Nat → Int → Int
  | 0, _ => 0
  | n + 1, r => if (get t.bad r).getD false = true then r else firstBad t n (r + 1)
def judged : J :=
  let t1 := (thru l nm l.length).behind l l.length
  let t2 := t1.twice l l.length
  let t3 := t2.once l t2.stays.length
  t3.tog l t3.stays.length
def evsJ : Int := firstBad (judged l nm) 6 1
end
end Go.Proofs.YtogagkgkmoppmaaGreatDoor
namespace Go.Proofs.YtogagkgkmoppmaaGreatDoor
set_option linter.unusedVariables false
set_option linter.unusedSimpArgs false
open Go.RowKit GM
/-- parts that lie apart above a base world -/
structure At (wB : World) (L : List Pc) (w : World) : Prop where
  own : Own w wB.heap.size L
  bel : Below wB.heap.size wB w
theorem At.below {wB w w' : World} {L : List Pc} (h : At wB L w) (hb : Below w.heap.size w w') : At wB L w' := ⟨h.own.below hb, bt h.bel hb⟩
theorem At.next {wB w w' : World} {L L' : List Pc} (h : At wB L w) (h' : Own w' wB.heap.size L') (hk : Kept (fun k => wB.heap.size ≤ k) w w') : At wB L' w' :=
  ⟨h', hk.out h.bel h.bel.size (fun k hk e => by omega)⟩
theorem At.perm {wB w : World} {L L' : List Pc} (h : At wB L w) (hp : L.Perm L') : At wB L' w := ⟨h.own.perm hp, h.bel⟩
/-- one part changes -/
theorem At.one {wB w w' : World} {L : List Pc} (i : Nat) {p : Pc} (q : Pc) (h : At wB L w) (hp : L[i]? = some p) (hk : Kept (fun k => p.blk = some k) w w') (hq : q.ok w') (hB : ∀ b, q.blk = some b → p.blk = some b ∨ w.heap.size ≤ b) : At wB (L.set i q) w' := by
  obtain ⟨h1, h2⟩ := own_at i q h.own h.bel.size hp hk hq hB
  exact h.next h1 h2
theorem At.new {wB w w' : World} {L : List Pc} (q : Pc) (h : At wB L w) (hb : Below w.heap.size w w') (hq : q.ok w') (hB : ∀ b, q.blk = some b → w.heap.size ≤ b) : At wB (q :: L) w' :=
  ⟨own_new q h.own h.bel.size hb hq hB, bt h.bel hb⟩
theorem At.drop1 {wB w : World} {L : List Pc} {q : Pc} (h : At wB (q :: L) w) : At wB L w := ⟨h.own.sub (List.sublist_cons_self q L), h.bel⟩
/-- an owned row of any kind -/
def ownPc (t : TypeId) (sz : Nat) (a : Option Addr) (n c : Nat) (xs : List Value) (h1 : t ≠ 28) (h2 : t ≠ 36) : Pc where
  blk := (Value.slice a n c).ownBlock
  ok := fun w => w.ownsRow 0 t sz (.slice a n c) n xs
  lt := fun w b h e => by
    obtain ⟨c, fz, hc⟩ := Lib.ownsRow_kind h b e
    exact lt_of_cells hc h1 h2
  keep := fun w w' S h hk hs hq => own_keptS h hk hs
/-- a trace that came in, from an address on; its names -/
def namesV (L : List NameK) : List Value := L.flatMap fun n => [.int .i64 n.1, .int .u32 (n.2 : Int)]
structure Tr (w : World) (g o : Nat) (l : List Ev) (nm : Nat → List NameK) : Prop where
  len : l.length ≤ 140737488351232
  ev : ∀ i (h : i < l.length), g < w.heap.size ∧ w.rangeAt g (o + i * 19) (evA l[i]).toList ∧ EvOk w l[i]
  nms : ∀ i (h : i < l.length), (nm i).length = l[i].nl ∧ Reads w w.heap.size 2 l[i].na l[i].nl (namesV (nm i))
theorem Tr.below {w w' : World} {g o : Nat} {l : List Ev} {nm : Nat → List NameK} (h : Tr w g o l nm) (hb : Below w.heap.size w w') : Tr w' g o l nm := by
  refine ⟨h.len, fun i hi => ?_, fun i hi => ?_⟩
  · obtain ⟨hB, hr, hk⟩ := h.ev i hi
    exact ⟨Nat.lt_of_lt_of_le hB hb.size, fun j u hu => (hb.cell (p := ⟨g, o + i * 19 + j, none⟩) hB).trans (hr j u hu), hk.below hb⟩
  · obtain ⟨h1, h2⟩ := h.nms i hi
    exact ⟨h1, reads_moreE (h2.below hb) hb.size⟩
theorem Tr.cell {w : World} {g o : Nat} {l : List Ev} {nm : Nat → List NameK} (h : Tr w g o l nm) {i : Nat} {x : Ev} (hx : l[i]? = some x) (j : Nat) {v : Value} (hv : (evA x)[j]? = some v) : ∀ y : Bel w, y.val.cell? ⟨g, o + i * 19 + j, none⟩ = some v := by
  obtain ⟨hi, rfl⟩ := List.getElem?_eq_some_iff.1 hx
  obtain ⟨h1, h2, _⟩ := h.ev i hi
  exact Bel.cell (h2 j v (by simpa using hv)) h1
theorem Tr.ok {w : World} {g o : Nat} {l : List Ev} {nm : Nat → List NameK} (h : Tr w g o l nm) {i : Nat} {x : Ev} (hx : l[i]? = some x) : EvOk w x := by
  obtain ⟨hi, rfl⟩ := List.getElem?_eq_some_iff.1 hx
  exact (h.ev i hi).2.2
theorem Tr.msg {w : World} {g o : Nat} {l : List Ev} {nm : Nat → List NameK} (h : Tr w g o l nm) {i : Nat} {x : Ev} (hx : l[i]? = some x) : w.rangeAt g (o + i * 19 + 7) (msgA x.m).toList := fun j u hu => by
  obtain ⟨hi, rfl⟩ := List.getElem?_eq_some_iff.1 hx
  have hj : j < 6 := (List.getElem?_eq_some_iff.1 hu).1
  have := (h.ev i hi).2.1 (7 + j) u (by
    rw [← hu]
    rcases (by omega : j = 0 ∨ j = 1 ∨ j = 2 ∨ j = 3 ∨ j = 4 ∨ j = 5) with rfl | rfl | rfl | rfl | rfl | rfl <;> rfl)
  rwa [show o + i * 19 + (7 + j) = o + i * 19 + 7 + j by omega] at this
theorem Tr.lt {w : World} {g o : Nat} {l : List Ev} {nm : Nat → List NameK} (h : Tr w g o l nm) {i : Nat} (hi : i < l.length) : g < w.heap.size := (h.ev i hi).1
/-- what does not change of it -/
structure JH where
  T : Nat
  la : Option Addr
  ll : Nat
  lc : Nat
  bb : Nat
  lb : Nat
  nb : Nat
/-- a stay: where it lies -/
structure JX where
  b : Nat
  s : JS
  ga : Option Addr
  gc : Nat
  ua : Option Addr
  uc : Nat
  pb : Option Nat
structure JM where
  h : JH
  sa : Option Addr
  sc : Nat
  bad : List (Int × Bool)
  live : List (Int × Bool)
  now : List (Int × Nat)
  named : Int
  stays : List JX
def projJ (M : JM) : J := ⟨M.stays.map (·.s), M.live, M.now, M.bad, M.named⟩
def trC (M : JM) : Array Value := #[.slice M.h.la M.h.ll M.h.lc, .slice M.sa M.stays.length M.sc, .map (some M.h.bb), .int .i64 M.named]
def nthJ (L : List JX) (k : Nat) : Value := ptrV ((L.map fun x => x.b).getD k 0)
abbrev boolV (b : Bool) : Value := .bool b
section
variable (g o : Nat) (l : List Ev)
def evP (e : Option Nat) : Value := .pointer (e.map fun i => ⟨g, o + i * 19, none⟩)
def jsC (x : JX) : Array Value := #[.int .i64 x.s.proc, .int .u64 x.s.cf.1, .int .i64 x.s.cf.2, .int .u64 (x.s.mem : Int), .slice x.ga x.s.gots.length x.gc, evP g o x.s.tr, evP g o x.s.nx, evP g o x.s.vw, .int .i64 (x.s.va : Int), evP g o x.s.rd, .slice x.ua x.s.ups.length x.uc, .bool x.s.out, .pointer (x.pb.map fun b => ⟨b, 0, none⟩)]
def gotC (p : Nat × Bool) : List Value := .int .i64 (p.1 : Int) :: ((msgA (evMsg l p.1)).toList ++ [.bool p.2])
def gotsV (L : List (Nat × Bool)) : List Value := L.flatMap (gotC l)
def upsV (L : List Nat) : List Value := rowsM (L.map (evMsg l))
def sCells (x : JX) : Pc := varPc x.b (jsC g o x) 56 (by decide) (by decide)
def sGots (x : JX) : Pc := ownPc 58 8 x.ga x.s.gots.length x.gc (gotsV l x.s.gots) (by decide) (by decide)
def sUps (x : JX) : Pc := ownPc 31 6 x.ua x.s.ups.length x.uc (upsV l x.s.ups) (by decide) (by decide)
def sP (x : JX) : List Pc := [sCells g o x, sGots l x, sUps l x]
def jTr (M : JM) : Pc := varPc M.h.T (trC M) 48 (by decide) (by decide)
def jBad (M : JM) : Pc := mapPc intV M.h.bb (vals boolV M.bad)
def jPtr (M : JM) : Pc := ownPc 51 1 M.sa M.stays.length M.sc (M.stays.map fun x => ptrV x.b) (by decide) (by decide)
def jLive (M : JM) : Pc := mapPc intV M.h.lb (vals boolV M.live)
def jNow (M : JM) : Pc := mapPc intV M.h.nb (vals (nthJ M.stays) M.now)
def jparts (M : JM) : List Pc := jTr M :: jBad M :: jPtr M :: jLive M :: jNow M :: M.stays.flatMap (sP g o l)
/-- what a stay keeps to -/
structure JXOk (L : List JX) (n : Nat) (x : JX) : Prop where
  bf : match x.s.bf with
    | none => x.pb = none
    | some j => ∃ y, L[j]? = some y ∧ x.pb = some y.b
  tr : ∀ e, x.s.tr = some e → e < l.length
  nx : ∀ e, x.s.nx = some e → e < l.length
  vw : ∀ e, x.s.vw = some e → e < l.length
  rd : ∀ e, x.s.rd = some e → e < l.length
  gots : ∀ p ∈ x.s.gots, p.1 < l.length
  ups : ∀ u ∈ x.s.ups, u < l.length
  gl : x.s.gots.length ≤ n
  ul : x.s.ups.length ≤ n
structure JOk (n : Nat) (M : JM) : Prop where
  now : ∀ p ∈ M.now, p.2 < M.stays.length
  st : ∀ x ∈ M.stays, JXOk l M.stays n x
  n : M.stays.length ≤ n
  la : 0 < l.length → M.h.la = some ⟨g, o, none⟩
  ll : M.h.ll = l.length
end
section
variable {wB w w' : World} {g o : Nat} {l : List Ev} {M : JM} {R : List Pc}
theorem jown_tr (h : Own w wB.heap.size (jparts g o l M ++ R)) : w.heap[M.h.T]? = some (.cells (trC M) 48 (0, 0)) := h.ok (jTr M) (by simp [jparts])
theorem jown_bad (h : Own w wB.heap.size (jparts g o l M ++ R)) : GMap intV w M.h.bb (vals boolV M.bad) := h.ok (jBad M) (by simp [jparts])
theorem jown_ptr (h : Own w wB.heap.size (jparts g o l M ++ R)) : w.ownsRow 0 51 1 (.slice M.sa M.stays.length M.sc) M.stays.length (M.stays.map fun x => ptrV x.b) := h.ok (jPtr M) (by simp [jparts])
theorem jown_live (h : Own w wB.heap.size (jparts g o l M ++ R)) : GMap intV w M.h.lb (vals boolV M.live) := h.ok (jLive M) (by simp [jparts])
theorem jown_now (h : Own w wB.heap.size (jparts g o l M ++ R)) : GMap intV w M.h.nb (vals (nthJ M.stays) M.now) := h.ok (jNow M) (by simp [jparts])
theorem jown_in (h : Own w wB.heap.size (jparts g o l M ++ R)) {x : JX} (hx : x ∈ M.stays) {p : Pc} (hp : p ∈ sP g o l x) : p.ok w := h.ok p (by
  simp only [jparts, List.mem_append, List.mem_cons, List.mem_flatMap]
  exact .inl (.inr (.inr (.inr (.inr (.inr ⟨x, hx, hp⟩))))))
theorem jown_st (h : Own w wB.heap.size (jparts g o l M ++ R)) {x : JX} (hx : x ∈ M.stays) : w.heap[x.b]? = some (.cells (jsC g o x) 56 (0, 0)) := jown_in h hx (p := sCells g o x) (by simp [sP])
theorem jown_gots (h : Own w wB.heap.size (jparts g o l M ++ R)) {x : JX} (hx : x ∈ M.stays) : w.ownsRow 0 58 8 (.slice x.ga x.s.gots.length x.gc) x.s.gots.length (gotsV l x.s.gots) := jown_in h hx (p := sGots l x) (by simp [sP])
theorem jown_ups (h : Own w wB.heap.size (jparts g o l M ++ R)) {x : JX} (hx : x ∈ M.stays) : w.ownsRow 0 31 6 (.slice x.ua x.s.ups.length x.uc) x.s.ups.length (upsV l x.s.ups) := jown_in h hx (p := sUps l x) (by simp [sP])
/-- a stay's cell -/
theorem jcell (h : Own w wB.heap.size (jparts g o l M ++ R)) {x : JX} (hx : x ∈ M.stays) (i : Nat) {v : Value} (hv : (jsC g o x)[i]? = some v) : ∀ y : Bel w, y.val.cell? ⟨x.b, i, none⟩ = some v :=
  Bel.cell ((cell_of_row _ _ i _ _ _ (jown_st h hx)).trans hv) (Array.getElem?_eq_some_iff.1 (jown_st h hx)).1
theorem tcell (h : Own w wB.heap.size (jparts g o l M ++ R)) (i : Nat) {v : Value} (hv : (trC M)[i]? = some v) : ∀ y : Bel w, y.val.cell? ⟨M.h.T, i, none⟩ = some v :=
  Bel.cell ((cell_of_row _ _ i _ _ _ (jown_tr h)).trans hv) (Array.getElem?_eq_some_iff.1 (jown_tr h)).1
/-- a stay's pointer in the row -/
theorem jown_nth (h : Own w wB.heap.size (jparts g o l M ++ R)) {k : Nat} (hk : k < M.stays.length) :
    ∃ b, M.sa = some ⟨b, 0, none⟩ ∧ b < w.heap.size ∧ w.cell? ⟨b, k, none⟩ = some (ptrV M.stays[k].b) := by
  have hp := jown_ptr h
  have hn : 0 < M.stays.length := by omega
  obtain ⟨b, c, hv, hg0, hg1⟩ := hp.form hn
  injection hv with e1 e2 e3
  refine ⟨b, e1, hg1, ?_⟩
  have := hp.cells (g := b) (by rw [e1]; rfl) k (ptrV M.stays[k].b) (by simp [hk])
  rw [show (⟨b, 0, none⟩ : Addr).add k = ⟨b, k, none⟩ from by unfold Addr.add; split <;> simp_all] at this
  exact this
end
def JM.br (M : JM) (r : Int) (b : Bool) : JM := if b = true then { M with bad := put M.bad r true } else M
def JM.wr (M : JM) (r : Int) (b : Bool) : JM := { M with named := wrongZ r M.named b }
def JM.setS (M : JM) (k : Nat) (x : JX) : JM := { M with stays := M.stays.set k x }
theorem projJ_br (M : JM) (r : Int) (b : Bool) : projJ (M.br r b) = (projJ M).br r b := by
  unfold JM.br J.br
  split <;> rfl
theorem projJ_wr (M : JM) (r : Int) (b : Bool) : projJ (M.wr r b) = (projJ M).wr r b := rfl
theorem projJ_setS (M : JM) (k : Nat) (x : JX) : projJ (M.setS k x) = (projJ M).setS k x.s := by simp [projJ, JM.setS, J.setS, List.map_set]
theorem br_fix (M : JM) (r : Int) (b : Bool) : (M.br r b).h = M.h ∧ (M.br r b).stays = M.stays ∧ (M.br r b).now = M.now ∧ (M.br r b).live = M.live ∧ (M.br r b).sa = M.sa ∧ (M.br r b).sc = M.sc := by
  unfold JM.br
  split <;> exact ⟨rfl, rfl, rfl, rfl, rfl, rfl⟩
theorem JOk.br {g o n : Nat} {l : List Ev} {M : JM} (h : JOk g o l n M) (r : Int) (b : Bool) : JOk g o l n (M.br r b) := by
  obtain ⟨e1, e2, e3, e4, e5, e6⟩ := br_fix M r b
  exact ⟨by rw [e2, e3]; exact h.now, by rw [e2]; exact h.st, by rw [e2]; exact h.n, by rw [e1]; exact h.la, by rw [e1]; exact h.ll⟩
theorem JOk.wr {g o n : Nat} {l : List Ev} {M : JM} (h : JOk g o l n M) (r : Int) (b : Bool) : JOk g o l n (M.wr r b) := ⟨h.now, h.st, h.n, h.la, h.ll⟩
theorem JXOk.more {l : List Ev} {L : List JX} {n m : Nat} {x : JX} (h : JXOk l L n x) (hn : n ≤ m) : JXOk l L m x := ⟨h.bf, h.tr, h.nx, h.vw, h.rd, h.gots, h.ups, Nat.le_trans h.gl hn, Nat.le_trans h.ul hn⟩
theorem JOk.more {g o n m : Nat} {l : List Ev} {M : JM} (h : JOk g o l n M) (hn : n ≤ m) : JOk g o l m M := ⟨h.now, fun x hx => (h.st x hx).more hn, Nat.le_trans h.n hn, h.la, h.ll⟩
/-- a stay changes, at its place -/
theorem JOk.setS {g o n : Nat} {l : List Ev} {M : JM} (h : JOk g o l n M) {k : Nat} (hk : k < M.stays.length) {x : JX} (hb : x.b = M.stays[k].b) (hx : JXOk l M.stays n x) : JOk g o l n (M.setS k x) := by
  have hl : ∀ y, JXOk l M.stays n y → JXOk l (M.stays.set k x) n y := fun y hy => by
    refine ⟨?_, hy.tr, hy.nx, hy.vw, hy.rd, hy.gots, hy.ups, hy.gl, hy.ul⟩
    have hbf := hy.bf
    cases hj : y.s.bf with
    | none => rw [hj] at hbf; exact hbf
    | some j =>
      rw [hj] at hbf
      obtain ⟨z, hz, hp⟩ := hbf
      by_cases e : k = j
      · subst e
        refine ⟨x, by rw [List.getElem?_set_self hk], ?_⟩
        rw [List.getElem?_eq_getElem hk] at hz
        injection hz with hz
        rw [hp, ← hz, hb]
      · exact ⟨z, by rw [List.getElem?_set_ne e]; exact hz, hp⟩
  refine ⟨by simp [JM.setS]; exact fun a b hab => h.now (a, b) hab, fun y hy => ?_, by simp [JM.setS]; exact h.n, h.la, h.ll⟩
  rcases List.mem_or_eq_of_mem_set hy with hy | rfl
  · exact hl y (h.st y hy)
  · exact hl _ hx
theorem jperm_set (g o : Nat) (l : List Ev) (M : JM) (k : Nat) (hk : k < M.stays.length) (x : JX) (hb : x.b = M.stays[k].b) (R : List Pc) :
    ∃ R', (jparts g o l M ++ R).Perm (sP g o l M.stays[k] ++ R') ∧ (sP g o l x ++ R').Perm (jparts g o l (M.setS k x) ++ R) := by
  have hm : (M.stays.set k x).map (fun x => x.b) = M.stays.map (fun x => x.b) := by
    rw [List.map_set, hb]
    apply List.ext_getElem
    · simp
    · intro i h1 h2
      rw [List.getElem_set]
      split
      · subst_vars; simp
      · rfl
  have hm2 : (M.stays.set k x).map (fun x => ptrV x.b) = M.stays.map (fun x => ptrV x.b) := by
    have h1 : ∀ L : List JX, L.map (fun x => ptrV x.b) = (L.map (fun x => x.b)).map ptrV := fun L => by simp
    rw [h1, h1, hm]
  have hnth : nthJ (M.stays.set k x) = nthJ M.stays := by
    funext j
    unfold nthJ
    rw [hm]
  have hs : ∀ y : JX, M.stays.set k y = M.stays.take k ++ y :: M.stays.drop (k + 1) := fun y => by
    rw [List.set_eq_take_append_cons_drop, if_pos hk]
  have h0 : M.stays = M.stays.take k ++ M.stays[k] :: M.stays.drop (k + 1) := by
    have := hs M.stays[k]
    rwa [List.set_getElem_self] at this
  have key : ∀ y : JX, (jTr M :: jBad M :: jPtr M :: jLive M :: jNow M :: ((M.stays.take k ++ y :: M.stays.drop (k + 1)).flatMap (sP g o l)) ++ R).Perm
      (sP g o l y ++ (jTr M :: jBad M :: jPtr M :: jLive M :: jNow M :: (M.stays.take k).flatMap (sP g o l) ++ ((M.stays.drop (k + 1)).flatMap (sP g o l) ++ R))) := by
    intro y
    rw [List.flatMap_append, List.flatMap_cons]
    have e1 : (jTr M :: jBad M :: jPtr M :: jLive M :: jNow M :: (List.flatMap (sP g o l) (List.take k M.stays) ++ (sP g o l y ++ List.flatMap (sP g o l) (List.drop (k + 1) M.stays))) ++ R)
      = (jTr M :: jBad M :: jPtr M :: jLive M :: jNow M :: List.flatMap (sP g o l) (List.take k M.stays)) ++ (sP g o l y ++ (List.flatMap (sP g o l) (List.drop (k + 1) M.stays) ++ R)) := by simp
    rw [e1]
    refine (List.perm_append_comm_assoc _ _ _).trans ?_
    exact List.Perm.refl _
  refine ⟨jTr M :: jBad M :: jPtr M :: jLive M :: jNow M :: (M.stays.take k).flatMap (sP g o l) ++ ((M.stays.drop (k + 1)).flatMap (sP g o l) ++ R), ?_, ?_⟩
  rotate_left
  · have e2 : jparts g o l (M.setS k x) ++ R = (jTr M :: jBad M :: jPtr M :: jLive M :: jNow M :: ((M.stays.take k ++ x :: M.stays.drop (k + 1)).flatMap (sP g o l)) ++ R) := by
      rw [← hs x]
      unfold jparts JM.setS jTr jBad jPtr jLive jNow trC
      simp only [hnth, hm2, List.length_set]
    rw [e2]
    exact (key x).symm
  · have e3 : jparts g o l M ++ R = (jTr M :: jBad M :: jPtr M :: jLive M :: jNow M :: ((M.stays.take k ++ M.stays[k] :: M.stays.drop (k + 1)).flatMap (sP g o l)) ++ R) := by
      rw [← h0]
      rfl
    rw [e3]
    exact key M.stays[k]
theorem jown_set {wB w w' : World} {g o k : Nat} {l : List Ev} {M : JM} {R : List Pc} (h : At wB (jparts g o l M ++ R) w) (hk : k < M.stays.length) {x : JX} (hb : x.b = M.stays[k].b)
    (hK : Kept (Reach w (sP g o l M.stays[k])) w w') (hL : Own w' 0 (sP g o l x)) (hB : ∀ p ∈ sP g o l x, ∀ b, p.blk = some b → Reach w (sP g o l M.stays[k]) b) :
    At wB (jparts g o l (M.setS k x) ++ R) w' := by
  obtain ⟨R', h1, h2⟩ := jperm_set g o l M k hk x hb R
  have h' := h.own.perm h1
  exact h.next ((h'.step h.bel.size hK hL hB).perm h2) (h'.left.low h.bel.size hK)
/-- a stay's own cells change, but for its rows -/
theorem jown_cell {wB w w' : World} {g o k : Nat} {l : List Ev} {M : JM} {R : List Pc} (h : At wB (jparts g o l M ++ R) w) (hk : k < M.stays.length) {x : JX} (hb : x.b = M.stays[k].b)
    (hg : sGots l x = sGots l M.stays[k]) (hu : sUps l x = sUps l M.stays[k]) (hK : Kept (fun b => b = x.b) w w') (hS : w'.heap[x.b]? = some (.cells (jsC g o x) 56 (0, 0))) :
    At wB (jparts g o l (M.setS k x) ++ R) w' := by
  obtain ⟨R', h1', h2'⟩ := jperm_set g o l M k hk x hb R
  have hk' : Kept (Reach w [sCells g o M.stays[k]]) w w' := hK.more fun b _ e => .inl ⟨_, List.mem_singleton.2 rfl, by rw [e, hb]; rfl⟩
  have h' : Own w wB.heap.size ([sCells g o M.stays[k]] ++ ([sGots l M.stays[k], sUps l M.stays[k]] ++ R')) := h.own.perm h1'
  have := h'.step h.bel.size hk' (L' := [sCells g o x]) ⟨fun p hp => by rw [List.mem_singleton.1 hp]; exact hS, fun _ _ _ _ => Nat.zero_le _, List.pairwise_singleton _ _⟩ (fun p hp b e => by rw [List.mem_singleton.1 hp] at e; exact .inl ⟨_, List.mem_singleton.2 rfl, by rw [← e]; exact congrArg some hb.symm⟩)
  refine h.next (Own.perm (l := [sCells g o x] ++ ([sGots l M.stays[k], sUps l M.stays[k]] ++ R')) this ?_) (Own.low (L := [sCells g o M.stays[k]]) h'.left h.bel.size hk')
  rw [← hg, ← hu]
  exact h2'
end Go.Proofs.YtogagkgkmoppmaaGreatDoor
namespace Go.Proofs.YtogagkgkmoppmaaGreatDoor
set_option linter.unusedVariables false
set_option linter.unusedSimpArgs false
open Go.RowKit GM
theorem At.bad {wB w w' : World} {g o : Nat} {l : List Ev} {M : JM} {R : List Pc} (h : At wB (jparts g o l M ++ R) w) (r : Int) (hg : GMap intV w' M.h.bb (put (vals boolV M.bad) r (.bool true))) (hgr : w.grownBy w' (some M.h.bb)) : At wB (jparts g o l (M.br r true) ++ R) w' := by
  refine h.one (w' := w') 1 (p := jBad M) (jBad (M.br r true)) rfl ((Kept.of_grown hgr).more fun k _ e => by rw [e]; rfl) ?_ (fun b e => .inl e)
  show GMap intV w' M.h.bb (vals boolV (put M.bad r true))
  rw [← put_vals]
  exact hg
set_option maxHeartbeats 2000000 in
theorem jbreaks_any {wB w : World} {g o : Nat} {l : List Ev} {M : JM} {R : List Pc} (h : At wB (jparts g o l M ++ R) w) (r : Int) (b : Bool) :
    Calls Tryz.prog 22 #[.pointer (some ⟨M.h.T, 0, none⟩), .int .i64 r, .bool b] w fun e w' => e = .returned (.tuple #[]) ∧ At wB (jparts g o l (M.br r b) ++ R) w' := by
  have HH := Lib.hid h
  have c2 := at0 (tcell h.own 2 (v := .map (some M.h.bb)) rfl)
  clear h
  cases b
  · go_enter Tryz.func22, Tryz.ntmps22
    go_wp2
    go_end0
    exact ⟨rfl, HH.out⟩
  · obtain ⟨w', hrun, hg, hgr, hsz⟩ := (jown_bad HH.out.own).update (P := Tryz.prog) Tryz.underlying46 intLaw r (.bool true)
    have hrun : (Instr.mapUpdate 46 (.map (some M.h.bb)) (.int .i64 r) (.bool true)).run Tryz.prog w = .ok () w' := hrun
    have HE := Lib.hid (HH.out.bad r hg hgr)
    clear hg hgr hsz
    go_enter Tryz.func22, Tryz.ntmps22
    go_wp2
    go_end0
    exact ⟨rfl, HE.out⟩
theorem wrongC (M : JM) (r : Int) (b : Bool) : (trC M).setIfInBounds 3 (.int .i64 (wrongZ r M.named b)) = trC (M.wr r b) := rfl
set_option maxHeartbeats 4000000 in
theorem jwrong_any {wB w : World} {g o : Nat} {l : List Ev} {M : JM} {R : List Pc} (h : At wB (jparts g o l M ++ R) w) (r : Int) (b : Bool) :
    Calls Tryz.prog 29 #[.pointer (some ⟨M.h.T, 0, none⟩), .int .i64 r, .bool b] w fun e w' => e = .returned (.tuple #[]) ∧ At wB (jparts g o l (M.wr r b) ++ R) w' := by
  have c3 := at0 (tcell h.own 3 (v := .int .i64 M.named) rfl)
  have f3 : w.frozen? ⟨M.h.T, 3, none⟩ = false := frozen_of_row _ _ _ _ _ (jown_tr h.own)
  have hz : ∀ z, w.setCell ⟨M.h.T, 3, none⟩ (.int .i64 z) = w.setCell ⟨M.h.T, 3, none⟩ (.int .i64 z) := fun _ => rfl
  have hS : ∀ z, z = wrongZ r M.named b → At wB (jparts g o l (M.wr r b) ++ R) (w.setCell ⟨M.h.T, 3, none⟩ (.int .i64 z)) := fun z e => by
    refine h.one 0 (p := jTr M) (jTr (M.wr r b)) rfl ((keptS w ⟨M.h.T, 3, none⟩ _).more fun k _ e => by rw [e]; rfl) ?_ (fun b e => .inl e)
    show (w.setCell ⟨M.h.T, 3, none⟩ (.int .i64 z)).heap[M.h.T]? = some (.cells (trC (M.wr r b)) 48 (0, 0))
    rw [setCell_block (jown_tr h.own) 3 _, e, wrongC]
  have hN : wrongZ r M.named b = M.named → M.wr r b = M := fun e => by
    unfold JM.wr
    rw [e]
  have HH := Lib.hid (And.intro h (And.intro hS hN))
  obtain ⟨z, hzz⟩ : ∃ z, z = M.named := ⟨_, rfl⟩
  rw [← hzz] at c3
  have HZ := Lib.hid hzz
  clear h hS hN hzz hz
  cases b
  · have HE := Lib.hid (show At wB (jparts g o l (M.wr r false) ++ R) w from by rw [HH.out.2.2 (by unfold wrongZ; rw [if_neg (by simp)])]; exact HH.out.1)
    clear HH
    go_enter Tryz.func29, Tryz.ntmps29
    go_wp2
    go_end0
    exact ⟨rfl, HE.out⟩
  · by_cases h0 : z = 0
    · subst h0
      have HE := Lib.hid (HH.out.2.1 r (by unfold wrongZ; rw [if_pos ⟨rfl, .inl HZ.out.symm⟩]))
      clear HH HZ
      go_enter Tryz.func29, Tryz.ntmps29
      go_wp2
      go_end0
      exact ⟨rfl, HE.out⟩
    · have d0 : (z == 0) = false := by simpa using h0
      by_cases h1 : r < z
      · have d1 : decide (r < z) = true := by simpa using h1
        have HE := Lib.hid (HH.out.2.1 r (by unfold wrongZ; rw [if_pos ⟨rfl, .inr (by rw [← HZ.out]; exact h1)⟩]))
        clear HH HZ h0 h1
        go_enter Tryz.func29, Tryz.ntmps29
        go_wp2
        go_end0
        exact ⟨rfl, HE.out⟩
      · have d1 : decide (r < z) = false := by simpa using h1
        have HE := Lib.hid (show At wB (jparts g o l (M.wr r true) ++ R) w from by
          rw [HH.out.2.2 (by
            unfold wrongZ
            rw [if_neg]
            rintro ⟨_, e | e⟩
            · exact h0 (HZ.out.trans e)
            · exact h1 (by rw [HZ.out]; exact e))]
          exact HH.out.1)
        clear HH HZ h0 h1
        go_enter Tryz.func29, Tryz.ntmps29
        go_wp2
        go_end0
        exact ⟨rfl, HE.out⟩
end Go.Proofs.YtogagkgkmoppmaaGreatDoor
namespace Go.Proofs.YtogagkgkmoppmaaGreatDoor
set_option linter.unusedVariables false
set_option linter.unusedSimpArgs false
open Go.RowKit GM
set_option maxRecDepth 100000 in
set_option maxHeartbeats 4000000 in
theorem len64_zero (w : World) : Calls Tryz.prog 100 #[.int .u64 0] w fun e w' => e = .returned (.int .i64 0) ∧ w = w' := by
  go_enter Tryz.func100, Tryz.ntmps100
  go_wp2_with fail
  go_ret
  refine ⟨?_, rfl⟩
  kernel_rfl
set_option maxHeartbeats 4000000 in
theorem len_zero (w : World) : Calls Tryz.prog 89 #[.int .u64 0] w fun e w' => e = .returned (.int .i64 0) ∧ w = w' := by
  have HL := Lib.hid (fun W => len64_zero W)
  go_enter Tryz.func89, Tryz.ntmps89
  go_wp2_with fail
  refine (HL.out _).mono ?_
  rintro e w' ⟨rfl, rfl⟩
  go_wp2_with fail
  go_ret
  exact ⟨rfl, rfl⟩
set_option maxHeartbeats 4000000 in
theorem ins_none (v c : Value) (w : World) : Calls Tryz.prog 91 #[v, .int .i64 0, .int .i64 0, c] w fun e w' => e = .returned (.tuple #[]) ∧ w = w' := by
  go_enter Tryz.func91, Tryz.ntmps91
  go_wp2_with fail
  go_loopw [8] (fun i wr => i = .int .i64 1 ∧ wr = w) (fun _ _ => 0)
  case atStart => exact ⟨rfl, rfl⟩
  case round =>
    obtain ⟨rfl, rfl⟩ := hrel
    go_wp2_with fail
    go_end0
    exact ⟨rfl, rfl⟩
set_option maxHeartbeats 4000000 in
theorem pdq_none (v c : Value) (z : Int) (w : World) : Calls Tryz.prog 88 #[v, .int .i64 0, .int .i64 0, .int .i64 z, c] w fun e w' => e = .returned (.tuple #[]) ∧ w = w' := by
  have HI := Lib.hid (fun W => ins_none v c W)
  go_enter Tryz.func88, Tryz.ntmps88
  go_wp2_with fail
  go_loopw [1, 2, 3] (fun a b l wr => a = .int .i64 0 ∧ b = .int .i64 0 ∧ l = .int .i64 z ∧ wr = w) (fun _ _ _ _ => 0)
  case atStart => exact ⟨rfl, rfl, rfl, rfl⟩
  case round =>
    obtain ⟨rfl, rfl, rfl, rfl⟩ := hrel
    go_wp2_with fail
    refine (HI.out _).mono ?_
    rintro e w' ⟨rfl, rfl⟩
    go_wp2_with fail
    refine bodyPost_ret (results_none rfl _ _ _) rfl ?_
    exact ⟨rfl, rfl⟩
set_option maxHeartbeats 4000000 in
theorem sort_none (c : Value) (w : World) : Calls Tryz.prog 81 #[.slice none 0 0, c] w fun e w' => e = .returned (.tuple #[]) ∧ w = w' := by
  have HL := Lib.hid (fun W => len_zero W)
  have HP := Lib.hid (fun W z => pdq_none (.slice none 0 0) c z W)
  go_enter Tryz.func81, Tryz.ntmps81
  go_wp2_with fail
  refine (HL.out _).mono ?_
  rintro e w' ⟨rfl, rfl⟩
  go_wp2_with fail
  refine (HP.out _ _).mono ?_
  rintro e w' ⟨rfl, rfl⟩
  go_wp2_with fail
  go_end0
  exact ⟨rfl, rfl⟩
set_option maxRecDepth 100000 in
set_option maxHeartbeats 4000000 in
/-- an empty map's values: none comes -/
theorem values1_none (Y : Value) (Bm mb clock : Nat) (W : World) (hm : W.cell? ⟨Bm, 0, none⟩ = some (.map (some mb))) (hb : W.heap[mb]? = some (.map #[] clock)) :
    Calls Tryz.prog 82 #[Y, .pointer (some ⟨Bm, 0, none⟩)] W fun e W' => e = .returned (.tuple #[]) ∧ W' = W.alloc (.mapIter (some mb) clock #[] clock) := by
  have hrg := run_range_map (P := Tryz.prog) W 132 25 36 mb #[] clock Tryz.underlying132 hb
  obtain ⟨wd, hwd⟩ : ∃ wd, wd = W.alloc (.mapIter (some mb) clock #[] clock) := ⟨_, rfl⟩
  obtain ⟨r, hr⟩ : ∃ r, r = W.heap.size := ⟨_, rfl⟩
  have hit : wd.heap[r]? = some (.mapIter (some mb) clock #[] clock) := by rw [hwd, hr]; exact heap_alloc_new W _
  have hmb : wd.heap[mb]? = some (.map #[] clock) := by rw [hwd]; exact (heap_alloc_old W _ (Array.getElem?_eq_some_iff.1 hb).1).trans hb
  have hnx : (Instr.next (.pointer (some ⟨r, 0, none⟩)) false 0).run Tryz.prog wd = .ok (.tuple #[.bool false]) wd := by
    rcases run_next_at (P := Tryz.prog) wd 0 r mb clock clock #[] #[] clock hit hmb (fun x hx => by simp at hx) (Nat.le_refl _) with ⟨_, h⟩ | ⟨e, he, _⟩
    · exact h
    · simp [leftOf] at he
  rw [hr] at hnx
  have HN := Lib.hid hnx
  have HWD := Lib.hid hwd
  rw [← hwd]
  clear hb hit hmb hnx hwd hr
  go_enter Tryz.func82, Tryz.ntmps82
  go_wp2_with fail
  clear hm hrg
  have hnx := HN.out
  go_loopw [4] (fun _ wr => wr = wd) (fun _ _ => 0)
  case atStart => exact HWD.out.symm
  case round =>
    obtain rfl := hrel
    go_wp2_with fail
    go_end0
    exact ⟨rfl, rfl⟩
end Go.Proofs.YtogagkgkmoppmaaGreatDoor
namespace Go.Proofs.YtogagkgkmoppmaaGreatDoor
set_option linter.unusedVariables false
set_option linter.unusedSimpArgs false
open Go.RowKit GM
/-- what has become of a judge, in plain -/
def JTo (wB : World) (g o : Nat) (l : List Ev) (R : List Pc) (n : Nat) (H : JH) (t : J) (w' : World) : Prop := ∃ M', At wB (jparts g o l M' ++ R) w' ∧ JOk g o l n M' ∧ projJ M' = t ∧ M'.h = H
def sV (M : JM) (s : Option Nat) : Value := match s with
  | none => .pointer none
  | some k => nthJ M.stays k
theorem nthJ_at {L : List JX} {k : Nat} (h : k < L.length) : nthJ L k = ptrV L[k].b := by
  unfold nthJ
  simp [h]
theorem gotC_len (l : List Ev) (p : Nat × Bool) : (gotC l p).length = 8 := rfl
theorem gotsV_snoc (l : List Ev) (L : List (Nat × Bool)) (p : Nat × Bool) : gotsV l (L ++ [p]) = gotsV l L ++ gotC l p := by simp [gotsV]
theorem gotC_one (l : List Ev) (p : Nat × Bool) : ∀ u ∈ gotC l p, u.oneCell' = true := by
  intro u hu
  simp [gotC, msgA] at hu
  rcases hu with rfl | rfl | rfl | rfl | rfl | rfl | rfl | rfl <;> rfl
theorem gotsV_at (l : List Ev) (L : List (Nat × Bool)) (i : Nat) (hi : i < L.length) (j : Nat) (u : Value) (h : (gotC l L[i])[j]? = some u) : (gotsV l L)[i * 8 + j]? = some u := by
  induction L generalizing i with
  | nil => simp at hi
  | cons p L ih =>
    have hj : j < 8 := (List.getElem?_eq_some_iff.1 h).1
    cases i with
    | zero =>
      show (gotC l p ++ gotsV l L)[0 * 8 + j]? = some u
      rw [Nat.zero_mul, Nat.zero_add, List.getElem?_append_left (by rw [gotC_len]; exact hj)]
      exact h
    | succ i =>
      show (gotC l p ++ gotsV l L)[(i + 1) * 8 + j]? = some u
      rw [List.getElem?_append_right (by rw [gotC_len]; omega), gotC_len]
      have := ih i (by simpa using hi) h
      rwa [show (i + 1) * 8 + j - 8 = i * 8 + j by omega]
theorem info58 : (Tryz.prog.info? 58).map (fun i => (i.zero, i.size, i.bytes)) = some (some (.agg (#[.int .i64 0] ++ msgA zeroM ++ #[.bool false])), 8, 88) := by kernel_rfl
theorem bldG (a : Int) (m : Msg) (b : Bool) : Tryz.prog.built 58 [(0, .int .i64 a), (1, .agg (msgA m).toList.toArray), (2, .bool b)] = some (Value.int .i64 a :: ((msgA m).toList ++ [.bool b])).toArray := by kernel_rfl
theorem evMsg_at {l : List Ev} {i : Nat} {x : Ev} (h : l[i]? = some x) : evMsg l i = x.m := by unfold evMsg; rw [h]
/-- a delivery more -/
def JX.got (x : JX) (p : Nat × Bool) (ad : Option Addr) (cap : Nat) : JX := { x with s := { x.s with gots := x.s.gots ++ [p] }, ga := ad, gc := cap }
theorem jown_got {wB w w11 : World} {g o k : Nat} {l : List Ev} {M : JM} {R : List Pc} (h : At wB (jparts g o l M ++ R) w) (hk : k < M.stays.length) (p : Nat × Bool) (ad : Option Addr) (cap : Nat)
    (hrow : w11.ownsRow 0 58 8 (.slice ad (M.stays[k].s.gots.length + 1) cap) (M.stays[k].s.gots.length + 1) (gotsV l (M.stays[k].s.gots ++ [p])))
    (hK : Kept (fun b => (sGots l M.stays[k]).blk = some b) w w11) (hB : ∀ b, (Value.slice ad (M.stays[k].s.gots.length + 1) cap).ownBlock = some b → (sGots l M.stays[k]).blk = some b ∨ w.heap.size ≤ b) :
    w11.heap[M.stays[k].b]? = some (.cells (jsC g o M.stays[k]) 56 (0, 0)) ∧ At wB (jparts g o l (M.setS k (M.stays[k].got p ad cap)) ++ R) (w11.setCell ⟨M.stays[k].b, 4, none⟩ (.slice ad (M.stays[k].s.gots.length + 1) cap)) := by
  obtain ⟨y, hy⟩ : ∃ y, y = M.stays[k] := ⟨_, rfl⟩
  rw [← hy] at hrow hK hB ⊢
  have hym : y ∈ M.stays := hy ▸ List.getElem_mem hk
  have hst := jown_st h.own hym
  have hnb : ¬ (sGots l y).blk = some y.b := fun e => by
    obtain ⟨c, fz, hc⟩ := Lib.ownsRow_kind (jown_gots h.own hym) y.b e
    rw [hst] at hc
    injection hc with hc
    injection hc with _ hc _
    exact absurd hc (by decide)
  have hst11 := hK.keep hst hnb
  refine ⟨hst11, ?_⟩
  have hK2 := keptS w11 ⟨y.b, 4, none⟩ (.slice ad (y.s.gots.length + 1) cap)
  have hlt : y.b < w.heap.size := (Array.getElem?_eq_some_iff.1 hst).1
  have hnew : ∀ b, (Value.slice ad (y.s.gots.length + 1) cap).ownBlock = some b → b ≠ y.b := fun b hb e => by
    rcases hB b hb with g | g
    · exact hnb (e ▸ g)
    · omega
  have hrow2 := own_keptS hrow hK2 (fun b hb e => hnew b hb e)
  have hu : (sUps l y).ok w := jown_ups h.own hym
  have hap : ∀ b, (sGots l y).blk = some b → (sUps l y).blk ≠ some b := fun b hb e => by
    obtain ⟨c, fz, hc⟩ := Lib.ownsRow_kind (jown_gots h.own hym) b hb
    obtain ⟨c', fz', hc'⟩ := Lib.ownsRow_kind (jown_ups h.own hym) b e
    rw [hc] at hc'
    injection hc' with hc'
    injection hc' with _ hc' _
    exact absurd hc' (by decide)
  have hupb : ∀ b, (sUps l y).blk = some b → b ≠ y.b := fun b hb e => by
    obtain ⟨c, fz, hc⟩ := Lib.ownsRow_kind (jown_ups h.own hym) b hb
    rw [e, hst] at hc
    injection hc with hc
    injection hc with _ hc _
    exact absurd hc (by decide)
  have hups2 : (w11.setCell ⟨y.b, 4, none⟩ (.slice ad (y.s.gots.length + 1) cap)).ownsRow 0 31 6 (.slice y.ua y.s.ups.length y.uc) y.s.ups.length (upsV l y.s.ups) :=
    own_keptS (own_keptS (jown_ups h.own hym) hK (fun b hb e => hap b e hb)) hK2 (fun b hb e => hupb b hb e)
  have hcell : (w11.setCell ⟨y.b, 4, none⟩ (.slice ad (y.s.gots.length + 1) cap)).heap[y.b]? = some (.cells (jsC g o (y.got p ad cap)) 56 (0, 0)) := by
    rw [setCell_block hst11 4 _]
    have : (y.got p ad cap).s.gots.length = y.s.gots.length + 1 := by simp [JX.got]
    unfold jsC
    rw [this]
    rfl
  refine jown_set h hk (x := y.got p ad cap) (by rw [← hy]; rfl) ?_ ?_ ?_
  · rw [← hy]
    refine (hK.more fun b _ e => .inl ⟨sGots l y, by simp [sP], e⟩).trans ?_
    refine ⟨hK2.os, hK2.tape, hK2.output, hK2.size, fun i hi hn => hK2.block i hi (fun e => hn (.inl ⟨sCells g o y, by simp [sP], congrArg some e.symm⟩))⟩
  · refine ⟨fun q hq => ?_, fun _ _ _ _ => Nat.zero_le _, ?_⟩
    · simp only [sP, List.mem_cons, List.not_mem_nil, or_false] at hq
      rcases hq with rfl | rfl | rfl
      · exact hcell
      · show (w11.setCell ⟨y.b, 4, none⟩ _).ownsRow 0 58 8 (.slice ad (y.s.gots ++ [p]).length cap) (y.s.gots ++ [p]).length (gotsV l (y.s.gots ++ [p]))
        rw [show (y.s.gots ++ [p]).length = y.s.gots.length + 1 from by simp]
        exact hrow2
      · exact hups2
    · refine List.pairwise_cons.2 ⟨fun q hq b e => ?_, List.pairwise_cons.2 ⟨fun q hq b e => ?_, List.pairwise_singleton _ _⟩⟩
      · injection e with e
        have e : y.b = b := e
        simp only [List.mem_cons, List.not_mem_nil, or_false] at hq
        rcases hq with rfl | rfl
        · intro h2
          have h2 : (Value.slice ad (y.s.gots ++ [p]).length cap).ownBlock = some b := h2
          rw [show (y.s.gots ++ [p]).length = y.s.gots.length + 1 from by simp] at h2
          exact hnew b h2 e.symm
        · exact fun h2 => hupb b h2 e.symm
      · rw [List.mem_singleton.1 hq]
        intro h2
        have e : (Value.slice ad (y.s.gots ++ [p]).length cap).ownBlock = some b := e
        rw [show (y.s.gots ++ [p]).length = y.s.gots.length + 1 from by simp] at e
        rcases hB b e with g | g
        · exact hap b g h2
        · have := ((sUps l y).lt w b hu h2).1
          omega
  · rw [← hy]
    intro q hq b e
    simp only [sP, List.mem_cons, List.not_mem_nil, or_false] at hq
    rcases hq with rfl | rfl | rfl
    · exact .inl ⟨sCells g o y, by simp [sP], e⟩
    · have e : (Value.slice ad (y.s.gots ++ [p]).length cap).ownBlock = some b := e
      rw [show (y.s.gots ++ [p]).length = y.s.gots.length + 1 from by simp] at e
      rcases hB b e with g | g
      · exact .inl ⟨sGots l y, by simp [sP], g⟩
      · exact .inr g
    · exact .inl ⟨sUps l y, by simp [sP], e⟩
end Go.Proofs.YtogagkgkmoppmaaGreatDoor
