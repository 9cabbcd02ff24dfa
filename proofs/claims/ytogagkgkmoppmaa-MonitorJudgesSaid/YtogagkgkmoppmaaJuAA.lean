/-
  What the judge's texts stand upon.
  Conditions: none.
-/
import Derived.Test.YtogagkgkmoppmaaEvs
namespace Go.Proofs.Ytogagkgkmoppmaa
set_option linter.unusedVariables false
set_option linter.unusedSimpArgs false
open Go.RowKit GM
abbrev NameK := Int × Nat
/-- one of a life in a configuration; gots and ups: which events of the trace -/
structure JS where
  proc : Int
  cf : ConfK
  mem : Nat
  gots : List (Nat × Bool)
  tr : Option Nat
  nx : Option Nat
  vw : Option Nat
  va : Nat
  rd : Option Nat
  ups : List Nat
  out : Bool
  bf : Option Nat
structure J where
  stays : List JS
  live : List (Int × Bool)
  now : List (Int × Nat)
  bad : List (Int × Bool)
  named : Int
def J0 : J := ⟨[], [], [], [], 0⟩
def J.br (t : J) (r : Int) (b : Bool) : J := if b = true then { t with bad := put t.bad r true } else t
def wrongZ (r z : Int) (b : Bool) : Int := if b = true ∧ (z = 0 ∨ r < z) then r else z
def J.wr (t : J) (r : Int) (b : Bool) : J := { t with named := wrongZ r t.named b }
def J.setS (t : J) (k : Nat) (s : JS) : J := { t with stays := t.stays.set k s }
theorem J.br_stays (t : J) (r : Int) (b : Bool) : (t.br r b).stays = t.stays ∧ (t.br r b).live = t.live ∧ (t.br r b).now = t.now ∧ (t.br r b).named = t.named := by
  unfold J.br
  split <;> exact ⟨rfl, rfl, rfl, rfl⟩
section
variable (l : List Ev) (nm : Nat → List NameK)
def evN (i : Nat) : ConfK := match l[i]? with
  | some x => next x
  | none => (0, 0)
def evM (i : Nat) : Nat := match l[i]? with
  | some x => x.mem
  | none => 0
def evMsg (i : Nat) : Msg := match l[i]? with
  | some x => x.m
  | none => zeroM
def dupJ (x : Ev) (o : JS) : Bool := decide (o.cf = conf x) && (!(o.mem == x.mem) || decide (o.proc = x.proc))
def J.dups (x : Ev) (L : List JS) (t : J) : J := L.foldl (fun t o => t.br 1 (dupJ x o)) t
def wayJ (x : Ev) (o : JS) : Bool := match o.tr with
  | none => true
  | some e => (!decide (evN l e = conf x) || !inB (evM l e) x.mem) || !hasB (evM l e) x.proc
def J.went (t : J) (x : Ev) (i : Nat) (b : Option Nat) : J := match b with
  | none => t
  | some k => match t.stays[k]? with
    | none => t
    | some o => ((t.setS k { o with nx := some i }).br 1 (decide (keyZ (x.ce : Int) x.cr o.cf.1 o.cf.2 ≤ 0))).br 1 (wayJ l x o)
def newJ (x : Ev) (b : Option Nat) : JS := ⟨x.proc, conf x, x.mem, [], none, none, none, 0, none, [], false, b⟩
def J.enter (t : J) (x : Ev) (b : Option Nat) : J := { t with now := put t.now x.proc t.stays.length, stays := t.stays ++ [newJ x b] }
def J.regular (t : J) (i : Nat) (x : Ev) (lv : Bool) (b : Option Nat) : J := (((t.br 1 (!lv || !hasB x.mem x.proc)).dups x t.stays).went l x i b).enter x b
def newOf (o : JS) : ConfK := match o.tr with
  | none => (0, 0)
  | some e => evN l e
def J.innerAt (t : J) (i : Nat) (x : Ev) (k : Nat) (o : JS) : J :=
  if x.kind = 1 then t.br 1 o.tr.isSome
  else if x.kind = 4 then (t.br 1 o.tr.isSome).setS k { o with tr := some i }
  else if x.kind = 2 then (t.br 2 (!decide (next x = newOf l o))).setS k { o with gots := o.gots ++ [(i, o.tr.isSome)] }
  else t
def J.inner (t : J) (i : Nat) (x : Ev) (lv : Bool) (s : Option Nat) : J := match s with
  | none => t.br 1 true
  | some k => match t.stays[k]? with
    | none => t
    | some o => if lv = true ∧ o.cf = conf x then t.innerAt l i x k o else t.br 1 true
def viewK (x : Ev) : Nat × Nat × Int × Nat := (x.vn, x.vce, x.vcr, x.vm)
def name0 (i : Nat) : NameK := (nm i).headD (0, 0)
/-- may the event not be the incarnation's? -/
def strange (i : Nat) (x : Ev) (o : JS) : Bool := match o.vw with
  | none => true
  | some v => (((o.out || !((nm i).length == 1)) || !decide ((name0 nm i).1 = x.proc)) || !(nm v).contains (name0 nm i)) || (match l[v]? with
    | none => true
    | some y => !decide (viewK x = viewK y))
def J.mineAt (t : J) (x : Ev) (s : Option Nat) : Option Nat := match s with
  | none => none
  | some k => match t.stays[k]? with
    | none => none
    | some o => if x.kind = 12 ∧ o.vw = none ∧ o.bf.isSome = true then o.bf else some k
def J.mineTo (t : J) (i : Nat) (x : Ev) (k : Nat) (o : JS) : J :=
  if x.kind = 11 then (t.wr 3 o.rd.isSome).setS k { o with rd := some i }
  else if x.kind = 8 then t.wr 3 o.rd.isNone
  else if x.kind = 9 then (t.wr 3 o.rd.isNone).setS k { o with ups := o.ups ++ [i] }
  else if x.kind = 12 then t.setS k { o with out := true }
  else t
def J.mine (t : J) (i : Nat) (x : Ev) (s : Option Nat) : J := match t.mineAt x s with
  | none => t.wr 3 true
  | some k => match t.stays[k]? with
    | none => t
    | some o => if strange l nm i x o = true then t.wr 3 true else t.mineTo i x k o
def J.upper (t : J) (i : Nat) (x : Ev) (s : Option Nat) : J :=
  if x.kind = 7 then match s with
    | none => t
    | some k => match t.stays[k]? with
      | none => t
      | some o => t.setS k { o with vw := some i, va := i, rd := none, out := false }
  else if x.kind = 11 ∨ x.kind = 8 ∨ x.kind = 9 ∨ x.kind = 10 ∨ x.kind = 12 then t.mine l nm i x s
  else t
def J.step (t : J) (i : Nat) (x : Ev) : J :=
  if x.kind = 5 then { t with live := put t.live x.proc true, now := del t.now x.proc }
  else if x.kind = 6 then { t with live := put t.live x.proc false, now := del t.now x.proc }
  else if x.kind = 3 then t.regular l i x ((get t.live x.proc).getD false) (get t.now x.proc)
  else if x.kind = 1 ∨ x.kind = 2 ∨ x.kind = 4 then t.inner l i x ((get t.live x.proc).getD false) (get t.now x.proc)
  else t.upper l nm i x (get t.now x.proc)
def thru : Nat → J
  | 0 => J0
  | n + 1 => match l[n]? with
    | none => thru n
    | some x => (thru n).step l nm n x
/-- rule 2: of how many EvSend a delivery stands behind -/
def isSend (x : Ev) : Bool := decide (x.kind = 1) && decide (x.proc = x.m.frm)
def sentAt (k : PlaceK) (j : Nat) : Bool := match l[j]? with
  | none => false
  | some y => isSend y && decide (place y = k)
def sentL (n : Nat) (k : PlaceK) : List Nat := (List.range n).filter (sentAt l k)
def cntJ (n : Nat) (x : Ev) : Nat := ((sentL l n (place x)).filter fun j => sameM (evMsg l j) x.m).length
def J.behind1 (t : J) (i : Nat) : J := match l[i]? with
  | none => t
  | some x => if isSend x = true then t else if x.kind = 2 then t.br 2 (!(cntJ l i x == 1)) else t
def J.behind (t : J) : Nat → J
  | 0 => t
  | n + 1 => (J.behind t n).behind1 l n
/-- rule 3: twice; keys; rule 4: what it had delivered -/
def hadJ (x : Ev) : HadK := (x.proc, (x.ce : Int), x.cr, x.m.frm, (x.m.seq : Int))
def hadAt (k : HadK) (j : Nat) : Bool := match l[j]? with
  | none => false
  | some y => decide (y.kind = 2) && decide (hadJ y = k)
def J.twice1 (t : J) (i : Nat) : J := match l[i]? with
  | none => t
  | some x => if x.kind = 2 then t.br 3 ((List.range i).any (hadAt l (hadJ x))) else t
def J.twice (t : J) : Nat → J
  | 0 => t
  | n + 1 => (J.twice t n).twice1 l n
def gotM (g : Nat × Bool) : Msg := evMsg l g.1
def cntG (L : List (Nat × Bool)) (q : Int) : Nat := (L.filter fun g => decide ((gotM l g).frm = q)).length
def lessJ (a b : Msg) : Bool := decide (0 ≤ keyZ (a.stamp : Int) a.frm (b.stamp : Int) b.frm)
def J.deps (t : J) (L : List (Nat × Bool)) (ds : List Nat) : Nat → J
  | 0 => t
  | n + 1 => (J.deps t L ds n).br 4 (decide ((cntG l L (n : Int) : Int) < ((ds.getD n 0 : Nat) : Int)))
def J.keys1 (t : J) (L : List (Nat × Bool)) (i : Nat) : J := match L[i]? with
  | none => t
  | some g => (t.br 3 (match L[i - 1]? with
    | none => false
    | some p => decide (0 < i) && lessJ (gotM l p) (gotM l g))).deps l (L.take i) (gotM l g).ds (gotM l g).ds.length
def J.keys (t : J) (L : List (Nat × Bool)) : Nat → J
  | 0 => t
  | n + 1 => (J.keys t L n).keys1 l L n
def J.once (t : J) : Nat → J
  | 0 => t
  | n + 1 => match t.stays[n]? with
    | none => J.once t n
    | some s => (J.once t n).keys l s.gots s.gots.length
/-- rules 5 and 6 -/
def partJ (o : JS) (b : Bool) : List Msg := (o.gots.filter fun g => g.2 == b).map (gotM l)
def pairJ (a b : JS) : Bool := decide (a.cf = b.cf) && !decide (a.proc = b.proc) && a.nx.isSome && b.nx.isSome && (match a.tr, b.tr with
  | some e, some f => decide (evN l e = evN l f)
  | _, _ => false)
def diffJ (a b : JS) : Bool := (!(newMem a == newMem b) || !sameL (partJ l a false) (partJ l b false)) || !sameL (partJ l a true) (partJ l b true)
where newMem (o : JS) : Nat := match o.tr with
  | none => 0
  | some e => evM l e
def J.pair (t : J) (a b : JS) : J := if pairJ l a b = true then t.br 5 (diffJ l a b) else t
def J.pairs (t : J) (a : JS) : Nat → J
  | 0 => t
  | n + 1 => match t.stays[n]? with
    | none => J.pairs t a n
    | some b => (J.pairs t a n).pair l a b
def hasJ (o : JS) (m : Msg) : Bool := o.gots.any fun g => sameM (gotM l g) m
def memJ (a : JS) (g : Nat × Bool) : Nat := if g.2 = true then (match a.tr with
  | none => 0
  | some e => evM l e) else a.mem
def J.safe1 (t : J) (a b : JS) (i : Nat) : J := match a.gots[i]? with
  | none => t
  | some g => t.br 6 ((decide ((gotM l g).service = 2) && hasB (memJ l a g) b.proc) && !hasJ l b (gotM l g))
def J.safe (t : J) (a b : JS) : Nat → J
  | 0 => t
  | n + 1 => (J.safe t a b n).safe1 l a b n
def J.safes (t : J) (a : JS) : Nat → J
  | 0 => t
  | n + 1 => match t.stays[n]? with
    | none => J.safes t a n
    | some b => if decide (a.cf = b.cf) && b.nx.isSome then (J.safes t a n).safe l a b a.gots.length else J.safes t a n
def J.tog1 (t : J) (i : Nat) : J := match t.stays[i]? with
  | none => t
  | some a => (t.pairs l a i).safes l a t.stays.length
def J.tog (t : J) : Nat → J
  | 0 => t
  | n + 1 => (J.tog t n).tog1 l n
/-- the first rule that is broken -/
def firstBad (t : J) : Nat → Int → Int
  | 0, _ => 0
  | n + 1, r => if (get t.bad r).getD false = true then r else firstBad t n (r + 1)
def judged : J :=
  let t1 := (thru l nm l.length).behind l l.length
  let t2 := t1.twice l l.length
  let t3 := t2.once l t2.stays.length
  t3.tog l t3.stays.length
def evsJ : Int := firstBad (judged l nm) 6 1
end
end Go.Proofs.Ytogagkgkmoppmaa
