/-
  The judge in memory: its trace, its stays, its maps, each a part of its own.
  Conditions: none.
-/
import Derived.Test.YtogagkgkmoppmaaJuAA
namespace Go.Proofs.Ytogagkgkmoppmaa
set_option linter.unusedVariables false
set_option linter.unusedSimpArgs false
open Go.RowKit GM
/-- parts that lie apart above a base world -/
structure At (wB : World) (L : List Pc) (w : World) : Prop where
  own : Own w wB.heap.size L
  bel : Below wB.heap.size wB w
theorem At.below {wB w w' : World} {L : List Pc} (h : At wB L w) (hb : Below w.heap.size w w') : At wB L w' := ⟨h.own.below hb, bt h.bel hb⟩
theorem At.next {wB w w' : World} {L L' : List Pc} (h : At wB L w) (h' : Own w' wB.heap.size L') (hk : Kept (fun k => wB.heap.size ≤ k) w w') : At wB L' w' :=
  ⟨h', hk.out h.bel h.bel.size (fun k hk e => by omega)⟩
theorem At.perm {wB w : World} {L L' : List Pc} (h : At wB L w) (hp : L.Perm L') : At wB L' w := ⟨h.own.perm hp, h.bel⟩
/-- one part changes -/
theorem At.one {wB w w' : World} {L : List Pc} (i : Nat) {p : Pc} (q : Pc) (h : At wB L w) (hp : L[i]? = some p) (hk : Kept (fun k => p.blk = some k) w w') (hq : q.ok w') (hB : ∀ b, q.blk = some b → p.blk = some b ∨ w.heap.size ≤ b) : At wB (L.set i q) w' := by
  obtain ⟨h1, h2⟩ := own_at i q h.own h.bel.size hp hk hq hB
  exact h.next h1 h2
theorem At.new {wB w w' : World} {L : List Pc} (q : Pc) (h : At wB L w) (hb : Below w.heap.size w w') (hq : q.ok w') (hB : ∀ b, q.blk = some b → w.heap.size ≤ b) : At wB (q :: L) w' :=
  ⟨own_new q h.own h.bel.size hb hq hB, bt h.bel hb⟩
theorem At.drop1 {wB w : World} {L : List Pc} {q : Pc} (h : At wB (q :: L) w) : At wB L w := ⟨h.own.sub (List.sublist_cons_self q L), h.bel⟩
/-- an owned row of any kind -/
def ownPc (t : TypeId) (sz : Nat) (a : Option Addr) (n c : Nat) (xs : List Value) (h1 : t ≠ 31) (h2 : t ≠ 39) : Pc where
  blk := (Value.slice a n c).ownBlock
  ok := fun w => w.ownsRow 0 t sz (.slice a n c) n xs
  lt := fun w b h e => by
    obtain ⟨c, fz, hc⟩ := Lib.ownsRow_kind h b e
    exact lt_of_cells hc h1 h2
  keep := fun w w' S h hk hs hq => own_keptS h hk hs
/-- a trace that came in, from an address on; its names -/
def namesV (L : List NameK) : List Value := L.flatMap fun n => [.int .i64 n.1, .int .u32 (n.2 : Int)]
structure Tr (w : World) (g o : Nat) (l : List Ev) (nm : Nat → List NameK) : Prop where
  len : l.length ≤ 140737488351232
  ev : ∀ i (h : i < l.length), g < w.heap.size ∧ w.rangeAt g (o + i * 19) (evA l[i]).toList ∧ EvOk w l[i]
  nms : ∀ i (h : i < l.length), (nm i).length = l[i].nl ∧ Reads w w.heap.size 2 l[i].na l[i].nl (namesV (nm i))
theorem Tr.below {w w' : World} {g o : Nat} {l : List Ev} {nm : Nat → List NameK} (h : Tr w g o l nm) (hb : Below w.heap.size w w') : Tr w' g o l nm := by
  refine ⟨h.len, fun i hi => ?_, fun i hi => ?_⟩
  · obtain ⟨hB, hr, hk⟩ := h.ev i hi
    exact ⟨Nat.lt_of_lt_of_le hB hb.size, fun j u hu => (hb.cell (p := ⟨g, o + i * 19 + j, none⟩) hB).trans (hr j u hu), hk.below hb⟩
  · obtain ⟨h1, h2⟩ := h.nms i hi
    exact ⟨h1, reads_moreE (h2.below hb) hb.size⟩
theorem Tr.cell {w : World} {g o : Nat} {l : List Ev} {nm : Nat → List NameK} (h : Tr w g o l nm) {i : Nat} {x : Ev} (hx : l[i]? = some x) (j : Nat) {v : Value} (hv : (evA x)[j]? = some v) : ∀ y : Bel w, y.val.cell? ⟨g, o + i * 19 + j, none⟩ = some v := by
  obtain ⟨hi, rfl⟩ := List.getElem?_eq_some_iff.1 hx
  obtain ⟨h1, h2, _⟩ := h.ev i hi
  exact Bel.cell (h2 j v (by simpa using hv)) h1
theorem Tr.ok {w : World} {g o : Nat} {l : List Ev} {nm : Nat → List NameK} (h : Tr w g o l nm) {i : Nat} {x : Ev} (hx : l[i]? = some x) : EvOk w x := by
  obtain ⟨hi, rfl⟩ := List.getElem?_eq_some_iff.1 hx
  exact (h.ev i hi).2.2
theorem Tr.msg {w : World} {g o : Nat} {l : List Ev} {nm : Nat → List NameK} (h : Tr w g o l nm) {i : Nat} {x : Ev} (hx : l[i]? = some x) : w.rangeAt g (o + i * 19 + 7) (msgA x.m).toList := fun j u hu => by
  obtain ⟨hi, rfl⟩ := List.getElem?_eq_some_iff.1 hx
  have hj : j < 6 := (List.getElem?_eq_some_iff.1 hu).1
  have := (h.ev i hi).2.1 (7 + j) u (by
    rw [← hu]
    rcases (by omega : j = 0 ∨ j = 1 ∨ j = 2 ∨ j = 3 ∨ j = 4 ∨ j = 5) with rfl | rfl | rfl | rfl | rfl | rfl <;> rfl)
  rwa [show o + i * 19 + (7 + j) = o + i * 19 + 7 + j by omega] at this
theorem Tr.lt {w : World} {g o : Nat} {l : List Ev} {nm : Nat → List NameK} (h : Tr w g o l nm) {i : Nat} (hi : i < l.length) : g < w.heap.size := (h.ev i hi).1
/-- what does not change of it -/
structure JH where
  T : Nat
  la : Option Addr
  ll : Nat
  lc : Nat
  bb : Nat
  lb : Nat
  nb : Nat
/-- a stay: where it lies -/
structure JX where
  b : Nat
  s : JS
  ga : Option Addr
  gc : Nat
  ua : Option Addr
  uc : Nat
  pb : Option Nat
structure JM where
  h : JH
  sa : Option Addr
  sc : Nat
  bad : List (Int × Bool)
  live : List (Int × Bool)
  now : List (Int × Nat)
  named : Int
  stays : List JX
def projJ (M : JM) : J := ⟨M.stays.map (·.s), M.live, M.now, M.bad, M.named⟩
def trC (M : JM) : Array Value := #[.slice M.h.la M.h.ll M.h.lc, .slice M.sa M.stays.length M.sc, .map (some M.h.bb), .int .i64 M.named]
def nthJ (L : List JX) (k : Nat) : Value := ptrV ((L.map fun x => x.b).getD k 0)
abbrev boolV (b : Bool) : Value := .bool b
section
variable (g o : Nat) (l : List Ev)
def evP (e : Option Nat) : Value := .pointer (e.map fun i => ⟨g, o + i * 19, none⟩)
def jsC (x : JX) : Array Value := #[.int .i64 x.s.proc, .int .u64 x.s.cf.1, .int .i64 x.s.cf.2, .int .u64 (x.s.mem : Int), .slice x.ga x.s.gots.length x.gc, evP g o x.s.tr, evP g o x.s.nx, evP g o x.s.vw, .int .i64 (x.s.va : Int), evP g o x.s.rd, .slice x.ua x.s.ups.length x.uc, .bool x.s.out, .pointer (x.pb.map fun b => ⟨b, 0, none⟩)]
def gotC (p : Nat × Bool) : List Value := .int .i64 (p.1 : Int) :: ((msgA (evMsg l p.1)).toList ++ [.bool p.2])
def gotsV (L : List (Nat × Bool)) : List Value := L.flatMap (gotC l)
def upsV (L : List Nat) : List Value := rowsM (L.map (evMsg l))
def sCells (x : JX) : Pc := varPc x.b (jsC g o x) 109 (by decide) (by decide)
def sGots (x : JX) : Pc := ownPc 111 8 x.ga x.s.gots.length x.gc (gotsV l x.s.gots) (by decide) (by decide)
def sUps (x : JX) : Pc := ownPc 34 6 x.ua x.s.ups.length x.uc (upsV l x.s.ups) (by decide) (by decide)
def sP (x : JX) : List Pc := [sCells g o x, sGots l x, sUps l x]
def jTr (M : JM) : Pc := varPc M.h.T (trC M) 80 (by decide) (by decide)
def jBad (M : JM) : Pc := mapPc intV M.h.bb (vals boolV M.bad)
def jPtr (M : JM) : Pc := ownPc 98 1 M.sa M.stays.length M.sc (M.stays.map fun x => ptrV x.b) (by decide) (by decide)
def jLive (M : JM) : Pc := mapPc intV M.h.lb (vals boolV M.live)
def jNow (M : JM) : Pc := mapPc intV M.h.nb (vals (nthJ M.stays) M.now)
def jparts (M : JM) : List Pc := jTr M :: jBad M :: jPtr M :: jLive M :: jNow M :: M.stays.flatMap (sP g o l)
/-- what a stay keeps to -/
structure JXOk (L : List JX) (n : Nat) (x : JX) : Prop where
  bf : match x.s.bf with
    | none => x.pb = none
    | some j => ∃ y, L[j]? = some y ∧ x.pb = some y.b
  tr : ∀ e, x.s.tr = some e → e < l.length
  nx : ∀ e, x.s.nx = some e → e < l.length
  vw : ∀ e, x.s.vw = some e → e < l.length
  rd : ∀ e, x.s.rd = some e → e < l.length
  gots : ∀ p ∈ x.s.gots, p.1 < l.length
  ups : ∀ u ∈ x.s.ups, u < l.length
  gl : x.s.gots.length ≤ n
  ul : x.s.ups.length ≤ n
structure JOk (n : Nat) (M : JM) : Prop where
  now : ∀ p ∈ M.now, p.2 < M.stays.length
  st : ∀ x ∈ M.stays, JXOk l M.stays n x
  n : M.stays.length ≤ n
  la : 0 < l.length → M.h.la = some ⟨g, o, none⟩
  ll : M.h.ll = l.length
end
section
variable {wB w w' : World} {g o : Nat} {l : List Ev} {M : JM} {R : List Pc}
theorem jown_tr (h : Own w wB.heap.size (jparts g o l M ++ R)) : w.heap[M.h.T]? = some (.cells (trC M) 80 (0, 0)) := h.ok (jTr M) (by simp [jparts])
theorem jown_bad (h : Own w wB.heap.size (jparts g o l M ++ R)) : GMap intV w M.h.bb (vals boolV M.bad) := h.ok (jBad M) (by simp [jparts])
theorem jown_ptr (h : Own w wB.heap.size (jparts g o l M ++ R)) : w.ownsRow 0 98 1 (.slice M.sa M.stays.length M.sc) M.stays.length (M.stays.map fun x => ptrV x.b) := h.ok (jPtr M) (by simp [jparts])
theorem jown_live (h : Own w wB.heap.size (jparts g o l M ++ R)) : GMap intV w M.h.lb (vals boolV M.live) := h.ok (jLive M) (by simp [jparts])
theorem jown_now (h : Own w wB.heap.size (jparts g o l M ++ R)) : GMap intV w M.h.nb (vals (nthJ M.stays) M.now) := h.ok (jNow M) (by simp [jparts])
theorem jown_in (h : Own w wB.heap.size (jparts g o l M ++ R)) {x : JX} (hx : x ∈ M.stays) {p : Pc} (hp : p ∈ sP g o l x) : p.ok w := h.ok p (by
  simp only [jparts, List.mem_append, List.mem_cons, List.mem_flatMap]
  exact .inl (.inr (.inr (.inr (.inr (.inr ⟨x, hx, hp⟩))))))
theorem jown_st (h : Own w wB.heap.size (jparts g o l M ++ R)) {x : JX} (hx : x ∈ M.stays) : w.heap[x.b]? = some (.cells (jsC g o x) 109 (0, 0)) := jown_in h hx (p := sCells g o x) (by simp [sP])
theorem jown_gots (h : Own w wB.heap.size (jparts g o l M ++ R)) {x : JX} (hx : x ∈ M.stays) : w.ownsRow 0 111 8 (.slice x.ga x.s.gots.length x.gc) x.s.gots.length (gotsV l x.s.gots) := jown_in h hx (p := sGots l x) (by simp [sP])
theorem jown_ups (h : Own w wB.heap.size (jparts g o l M ++ R)) {x : JX} (hx : x ∈ M.stays) : w.ownsRow 0 34 6 (.slice x.ua x.s.ups.length x.uc) x.s.ups.length (upsV l x.s.ups) := jown_in h hx (p := sUps l x) (by simp [sP])
/-- a stay's cell -/
theorem jcell (h : Own w wB.heap.size (jparts g o l M ++ R)) {x : JX} (hx : x ∈ M.stays) (i : Nat) {v : Value} (hv : (jsC g o x)[i]? = some v) : ∀ y : Bel w, y.val.cell? ⟨x.b, i, none⟩ = some v :=
  Bel.cell ((cell_of_row _ _ i _ _ _ (jown_st h hx)).trans hv) (Array.getElem?_eq_some_iff.1 (jown_st h hx)).1
theorem tcell (h : Own w wB.heap.size (jparts g o l M ++ R)) (i : Nat) {v : Value} (hv : (trC M)[i]? = some v) : ∀ y : Bel w, y.val.cell? ⟨M.h.T, i, none⟩ = some v :=
  Bel.cell ((cell_of_row _ _ i _ _ _ (jown_tr h)).trans hv) (Array.getElem?_eq_some_iff.1 (jown_tr h)).1
/-- a stay's pointer in the row -/
theorem jown_nth (h : Own w wB.heap.size (jparts g o l M ++ R)) {k : Nat} (hk : k < M.stays.length) :
    ∃ b, M.sa = some ⟨b, 0, none⟩ ∧ b < w.heap.size ∧ w.cell? ⟨b, k, none⟩ = some (ptrV M.stays[k].b) := by
  have hp := jown_ptr h
  have hn : 0 < M.stays.length := by omega
  obtain ⟨b, c, hv, hg0, hg1⟩ := hp.form hn
  injection hv with e1 e2 e3
  refine ⟨b, e1, hg1, ?_⟩
  have := hp.cells (g := b) (by rw [e1]; rfl) k (ptrV M.stays[k].b) (by simp [hk])
  rw [show (⟨b, 0, none⟩ : Addr).add k = ⟨b, k, none⟩ from by unfold Addr.add; split <;> simp_all] at this
  exact this
end
def JM.br (M : JM) (r : Int) (b : Bool) : JM := if b = true then { M with bad := put M.bad r true } else M
def JM.wr (M : JM) (r : Int) (b : Bool) : JM := { M with named := wrongZ r M.named b }
def JM.setS (M : JM) (k : Nat) (x : JX) : JM := { M with stays := M.stays.set k x }
theorem projJ_br (M : JM) (r : Int) (b : Bool) : projJ (M.br r b) = (projJ M).br r b := by
  unfold JM.br J.br
  split <;> rfl
theorem projJ_wr (M : JM) (r : Int) (b : Bool) : projJ (M.wr r b) = (projJ M).wr r b := rfl
theorem projJ_setS (M : JM) (k : Nat) (x : JX) : projJ (M.setS k x) = (projJ M).setS k x.s := by simp [projJ, JM.setS, J.setS, List.map_set]
theorem br_fix (M : JM) (r : Int) (b : Bool) : (M.br r b).h = M.h ∧ (M.br r b).stays = M.stays ∧ (M.br r b).now = M.now ∧ (M.br r b).live = M.live ∧ (M.br r b).sa = M.sa ∧ (M.br r b).sc = M.sc := by
  unfold JM.br
  split <;> exact ⟨rfl, rfl, rfl, rfl, rfl, rfl⟩
theorem JOk.br {g o n : Nat} {l : List Ev} {M : JM} (h : JOk g o l n M) (r : Int) (b : Bool) : JOk g o l n (M.br r b) := by
  obtain ⟨e1, e2, e3, e4, e5, e6⟩ := br_fix M r b
  exact ⟨by rw [e2, e3]; exact h.now, by rw [e2]; exact h.st, by rw [e2]; exact h.n, by rw [e1]; exact h.la, by rw [e1]; exact h.ll⟩
theorem JOk.wr {g o n : Nat} {l : List Ev} {M : JM} (h : JOk g o l n M) (r : Int) (b : Bool) : JOk g o l n (M.wr r b) := ⟨h.now, h.st, h.n, h.la, h.ll⟩
theorem JXOk.more {l : List Ev} {L : List JX} {n m : Nat} {x : JX} (h : JXOk l L n x) (hn : n ≤ m) : JXOk l L m x := ⟨h.bf, h.tr, h.nx, h.vw, h.rd, h.gots, h.ups, Nat.le_trans h.gl hn, Nat.le_trans h.ul hn⟩
theorem JOk.more {g o n m : Nat} {l : List Ev} {M : JM} (h : JOk g o l n M) (hn : n ≤ m) : JOk g o l m M := ⟨h.now, fun x hx => (h.st x hx).more hn, Nat.le_trans h.n hn, h.la, h.ll⟩
/-- a stay changes, at its place -/
theorem JOk.setS {g o n : Nat} {l : List Ev} {M : JM} (h : JOk g o l n M) {k : Nat} (hk : k < M.stays.length) {x : JX} (hb : x.b = M.stays[k].b) (hx : JXOk l M.stays n x) : JOk g o l n (M.setS k x) := by
  have hl : ∀ y, JXOk l M.stays n y → JXOk l (M.stays.set k x) n y := fun y hy => by
    refine ⟨?_, hy.tr, hy.nx, hy.vw, hy.rd, hy.gots, hy.ups, hy.gl, hy.ul⟩
    have hbf := hy.bf
    cases hj : y.s.bf with
    | none => rw [hj] at hbf; exact hbf
    | some j =>
      rw [hj] at hbf
      obtain ⟨z, hz, hp⟩ := hbf
      by_cases e : k = j
      · subst e
        refine ⟨x, by rw [List.getElem?_set_self hk], ?_⟩
        rw [List.getElem?_eq_getElem hk] at hz
        injection hz with hz
        rw [hp, ← hz, hb]
      · exact ⟨z, by rw [List.getElem?_set_ne e]; exact hz, hp⟩
  refine ⟨by simp [JM.setS]; exact fun a b hab => h.now (a, b) hab, fun y hy => ?_, by simp [JM.setS]; exact h.n, h.la, h.ll⟩
  rcases List.mem_or_eq_of_mem_set hy with hy | rfl
  · exact hl y (h.st y hy)
  · exact hl _ hx
theorem jperm_set (g o : Nat) (l : List Ev) (M : JM) (k : Nat) (hk : k < M.stays.length) (x : JX) (hb : x.b = M.stays[k].b) (R : List Pc) :
    ∃ R', (jparts g o l M ++ R).Perm (sP g o l M.stays[k] ++ R') ∧ (sP g o l x ++ R').Perm (jparts g o l (M.setS k x) ++ R) := by
  have hm : (M.stays.set k x).map (fun x => x.b) = M.stays.map (fun x => x.b) := by
    rw [List.map_set, hb]
    apply List.ext_getElem
    · simp
    · intro i h1 h2
      rw [List.getElem_set]
      split
      · subst_vars; simp
      · rfl
  have hm2 : (M.stays.set k x).map (fun x => ptrV x.b) = M.stays.map (fun x => ptrV x.b) := by
    have h1 : ∀ L : List JX, L.map (fun x => ptrV x.b) = (L.map (fun x => x.b)).map ptrV := fun L => by simp
    rw [h1, h1, hm]
  have hnth : nthJ (M.stays.set k x) = nthJ M.stays := by
    funext j
    unfold nthJ
    rw [hm]
  have hs : ∀ y : JX, M.stays.set k y = M.stays.take k ++ y :: M.stays.drop (k + 1) := fun y => by
    rw [List.set_eq_take_append_cons_drop, if_pos hk]
  have h0 : M.stays = M.stays.take k ++ M.stays[k] :: M.stays.drop (k + 1) := by
    have := hs M.stays[k]
    rwa [List.set_getElem_self] at this
  have key : ∀ y : JX, (jTr M :: jBad M :: jPtr M :: jLive M :: jNow M :: ((M.stays.take k ++ y :: M.stays.drop (k + 1)).flatMap (sP g o l)) ++ R).Perm
      (sP g o l y ++ (jTr M :: jBad M :: jPtr M :: jLive M :: jNow M :: (M.stays.take k).flatMap (sP g o l) ++ ((M.stays.drop (k + 1)).flatMap (sP g o l) ++ R))) := by
    intro y
    rw [List.flatMap_append, List.flatMap_cons]
    have e1 : (jTr M :: jBad M :: jPtr M :: jLive M :: jNow M :: (List.flatMap (sP g o l) (List.take k M.stays) ++ (sP g o l y ++ List.flatMap (sP g o l) (List.drop (k + 1) M.stays))) ++ R)
      = (jTr M :: jBad M :: jPtr M :: jLive M :: jNow M :: List.flatMap (sP g o l) (List.take k M.stays)) ++ (sP g o l y ++ (List.flatMap (sP g o l) (List.drop (k + 1) M.stays) ++ R)) := by simp
    rw [e1]
    refine (List.perm_append_comm_assoc _ _ _).trans ?_
    exact List.Perm.refl _
  refine ⟨jTr M :: jBad M :: jPtr M :: jLive M :: jNow M :: (M.stays.take k).flatMap (sP g o l) ++ ((M.stays.drop (k + 1)).flatMap (sP g o l) ++ R), ?_, ?_⟩
  rotate_left
  · have e2 : jparts g o l (M.setS k x) ++ R = (jTr M :: jBad M :: jPtr M :: jLive M :: jNow M :: ((M.stays.take k ++ x :: M.stays.drop (k + 1)).flatMap (sP g o l)) ++ R) := by
      rw [← hs x]
      unfold jparts JM.setS jTr jBad jPtr jLive jNow trC
      simp only [hnth, hm2, List.length_set]
    rw [e2]
    exact (key x).symm
  · have e3 : jparts g o l M ++ R = (jTr M :: jBad M :: jPtr M :: jLive M :: jNow M :: ((M.stays.take k ++ M.stays[k] :: M.stays.drop (k + 1)).flatMap (sP g o l)) ++ R) := by
      rw [← h0]
      rfl
    rw [e3]
    exact key M.stays[k]
theorem jown_set {wB w w' : World} {g o k : Nat} {l : List Ev} {M : JM} {R : List Pc} (h : At wB (jparts g o l M ++ R) w) (hk : k < M.stays.length) {x : JX} (hb : x.b = M.stays[k].b)
    (hK : Kept (Reach w (sP g o l M.stays[k])) w w') (hL : Own w' 0 (sP g o l x)) (hB : ∀ p ∈ sP g o l x, ∀ b, p.blk = some b → Reach w (sP g o l M.stays[k]) b) :
    At wB (jparts g o l (M.setS k x) ++ R) w' := by
  obtain ⟨R', h1, h2⟩ := jperm_set g o l M k hk x hb R
  have h' := h.own.perm h1
  exact h.next ((h'.step h.bel.size hK hL hB).perm h2) (h'.left.low h.bel.size hK)
/-- a stay's own cells change, but for its rows -/
theorem jown_cell {wB w w' : World} {g o k : Nat} {l : List Ev} {M : JM} {R : List Pc} (h : At wB (jparts g o l M ++ R) w) (hk : k < M.stays.length) {x : JX} (hb : x.b = M.stays[k].b)
    (hg : sGots l x = sGots l M.stays[k]) (hu : sUps l x = sUps l M.stays[k]) (hK : Kept (fun b => b = x.b) w w') (hS : w'.heap[x.b]? = some (.cells (jsC g o x) 109 (0, 0))) :
    At wB (jparts g o l (M.setS k x) ++ R) w' := by
  obtain ⟨R', h1', h2'⟩ := jperm_set g o l M k hk x hb R
  have hk' : Kept (Reach w [sCells g o M.stays[k]]) w w' := hK.more fun b _ e => .inl ⟨_, List.mem_singleton.2 rfl, by rw [e, hb]; rfl⟩
  have h' : Own w wB.heap.size ([sCells g o M.stays[k]] ++ ([sGots l M.stays[k], sUps l M.stays[k]] ++ R')) := h.own.perm h1'
  have := h'.step h.bel.size hk' (L' := [sCells g o x]) ⟨fun p hp => by rw [List.mem_singleton.1 hp]; exact hS, fun _ _ _ _ => Nat.zero_le _, List.pairwise_singleton _ _⟩ (fun p hp b e => by rw [List.mem_singleton.1 hp] at e; exact .inl ⟨_, List.mem_singleton.2 rfl, by rw [← e]; exact congrArg some hb.symm⟩)
  refine h.next (Own.perm (l := [sCells g o x] ++ ([sGots l M.stays[k], sUps l M.stays[k]] ++ R')) this ?_) (Own.low (L := [sCells g o M.stays[k]]) h'.left h.bel.size hk')
  rw [← hg, ← hu]
  exact h2'
end Go.Proofs.Ytogagkgkmoppmaa
