/-
  The judge: rows of ints in a map, each a part of its own; where an event was sent.
  Conditions: those that each theorem names.
-/
import Derived.Test.YtogagkgkmoppmaaGreatDoorJuM
import Derived.Test.YtogagkgkmoppmaaGreatDoorJuS
namespace Go.Proofs.YtogagkgkmoppmaaGreatDoor
set_option linter.unusedVariables false
set_option linter.unusedSimpArgs false
open Go.RowKit GM
/-- a row of ints -/
structure IR where
  l : List Nat
  ad : Option Addr
  cap : Nat
def noI : IR := ⟨[], none, 0⟩
def irV (r : IR) : Value := .slice r.ad r.l.length r.cap
def intsN (L : List Nat) : List Value := L.map fun n : Nat => .int .i64 (n : Int)
theorem intsN_len (L : List Nat) : (intsN L).length = L.length := by simp [intsN]
def irP (r : IR) : Pc := ownPc 3 1 r.ad r.l.length r.cap (intsN r.l) (by decide) (by decide)
def mapS (sb : Nat) (L : List (PlaceK × IR)) : Pc := mapPc placeV sb (vals irV L)
def sendP (sb : Nat) (L : List (PlaceK × IR)) : List Pc := mapS sb L :: L.map fun p => irP p.2
def rowI (L : List (PlaceK × IR)) (k : PlaceK) : IR := (get L k).getD noI
theorem noI_ok (w : World) : (irP noI).ok w := ⟨rfl, .inl ⟨rfl, rfl⟩⟩
theorem rowI_val (L : List (PlaceK × IR)) (k : PlaceK) : (get (vals irV L) k).getD (.slice none 0 0) = irV (rowI L k) := by
  rw [get_vals]
  unfold rowI
  cases get L k <;> rfl
theorem rowI_put (L : List (PlaceK × IR)) (k : PlaceK) (r : IR) (k' : PlaceK) : rowI (put L k r) k' = if k' = k then r else rowI L k' := by
  unfold rowI
  simp only [get_put]
  split <;> rfl
theorem rowI_mem {L : List (PlaceK × IR)} {k : PlaceK} {r : IR} (hg : get L k = some r) : irP r ∈ L.map fun p => irP p.2 := by
  unfold GM.get at hg
  cases hf : L.find? (fun x => decide (x.1 = k)) with
  | none => rw [hf] at hg; cases hg
  | some p =>
    rw [hf] at hg
    injection hg with hg
    have hg : p.2 = r := hg
    exact List.mem_map.2 ⟨p, List.mem_of_find?_eq_some hf, by rw [hg]⟩
section
variable {w w' : World} {b0 sb : Nat} {L : List (PlaceK × IR)} {R : List Pc} {k : PlaceK}
theorem sendP_map (h : Own w b0 (sendP sb L ++ R)) : GMap placeV w sb (vals irV L) := h.ok (mapS sb L) (by simp [sendP])
theorem sendP_row (h : Own w b0 (sendP sb L ++ R)) (k : PlaceK) : (irP (rowI L k)).ok w := by
  unfold rowI
  cases hg : get L k with
  | none => exact noI_ok w
  | some r => exact h.ok _ (List.mem_append_left _ (List.mem_cons_of_mem _ (rowI_mem hg)))
theorem map_ne_ir {α : Type} [DecidableEq α] {f : α → Value} {b : Nat} {L : List (α × Value)} (h : GMap f w b L) {r : IR} (hr : (irP r).ok w) : (irP r).blk ≠ some b := by
  intro e
  obtain ⟨c, fz, hc⟩ := Lib.ownsRow_kind hr b e
  obtain ⟨_, es, clock, hb, _⟩ := h
  rw [hb] at hc
  cases hc
/-- a row of the map changes -/
theorem own_sendI {r' : IR} (h : Own w b0 (sendP sb L ++ R)) (hb0 : b0 ≤ w.heap.size)
    (hk : Kept (fun b => b = sb ∨ (irP (rowI L k)).blk = some b) w w') (hm : GMap placeV w' sb (vals irV (put L k r'))) (hr : (irP r').ok w')
    (hB : ∀ b, (irP r').blk = some b → (irP (rowI L k)).blk = some b ∨ w.heap.size ≤ b) : Own w' b0 (sendP sb (put L k r') ++ R) ∧ Kept (fun k => b0 ≤ k) w w' := by
  have hnd : (L.map (·.1)).Nodup := by
    have := (sendP_map h).1
    unfold vals at this
    rw [List.map_map] at this
    exact this
  have hne : ∀ b, (mapS sb (put L k r')).blk = some b → (irP r').blk ≠ some b := fun b e => by
    injection e with e
    rw [← e]
    exact map_ne_ir hm hr
  have hL' : Own w' 0 [mapS sb (put L k r'), irP r'] := by
    refine ⟨fun p hp => ?_, fun _ _ _ _ => Nat.zero_le _, ?_⟩
    · rcases List.mem_cons.1 hp with rfl | hp
      · exact hm
      · rw [List.mem_singleton.1 hp]
        exact hr
    · refine List.pairwise_cons.2 ⟨fun q hq b e => ?_, List.pairwise_singleton _ _⟩
      rw [List.mem_singleton.1 hq]
      exact hne b e
  unfold rowI at hk hB
  cases hg : get L k with
  | none =>
    rw [hg] at hk hB
    have hput : put L k r' = L ++ [(k, r')] := by
      unfold put
      rw [has_get, hg]
      rfl
    have h1 : Own w b0 ([mapS sb L] ++ ((L.map fun p => irP p.2) ++ R)) := h
    have hk' : Kept (Reach w [mapS sb L]) w w' := hk.more fun b _ e => by
      rcases e with e | e
      · exact .inl ⟨_, List.mem_singleton.2 rfl, by rw [e]; rfl⟩
      · cases e
    refine ⟨(Own.step h1 hb0 hk' hL' ?_).perm ?_, Own.low h1.left hb0 hk'⟩
    · intro p hp b e
      rcases List.mem_cons.1 hp with rfl | hp
      · exact .inl ⟨_, List.mem_singleton.2 rfl, e⟩
      · rw [List.mem_singleton.1 hp] at e
        rcases hB b e with e | e
        · cases e
        · exact .inr e
    · show ([mapS sb (put L k r'), irP r'] ++ ((L.map fun p => irP p.2) ++ R)).Perm (mapS sb (put L k r') :: ((put L k r').map fun p => irP p.2) ++ R)
      rw [hput, List.map_append]
      refine List.Perm.cons _ ?_
      show (irP r' :: ((L.map fun p => irP p.2) ++ R)).Perm (((L.map fun p => irP p.2) ++ [irP r']) ++ R)
      rw [List.append_assoc]
      exact List.perm_middle.symm
  | some r =>
    rw [hg] at hk hB
    obtain ⟨l1, l2, e1, e2⟩ := put_split hnd hg
    have hpp : sendP sb L ++ R = mapS sb L :: ((l1.map fun p => irP p.2) ++ irP r :: ((l2.map fun p => irP p.2) ++ R)) := by
      show mapS sb L :: (L.map fun p => irP p.2) ++ R = _
      have e3 : (L.map fun p => irP p.2) = (l1.map fun p => irP p.2) ++ irP r :: (l2.map fun p => irP p.2) := by
        conv => lhs; rw [e1]
        simp
      rw [e3]
      simp
    have hpq : sendP sb (put L k r') ++ R = mapS sb (put L k r') :: ((l1.map fun p => irP p.2) ++ irP r' :: ((l2.map fun p => irP p.2) ++ R)) := by
      show mapS sb (put L k r') :: ((put L k r').map fun p => irP p.2) ++ R = _
      have e3 : ((put L k r').map fun p => irP p.2) = (l1.map fun p => irP p.2) ++ irP r' :: (l2.map fun p => irP p.2) := by
        conv => lhs; rw [e2 r']
        simp
      rw [e3]
      simp
    have hpm : ∀ (m q : Pc), (m :: ((l1.map fun p => irP p.2) ++ q :: ((l2.map fun p => irP p.2) ++ R))).Perm ([m, q] ++ ((l1.map fun p => irP p.2) ++ ((l2.map fun p => irP p.2) ++ R))) := fun m q => List.Perm.cons m List.perm_middle
    have h1 : Own w b0 ([mapS sb L, irP r] ++ ((l1.map fun p => irP p.2) ++ ((l2.map fun p => irP p.2) ++ R))) := by
      rw [hpp] at h
      exact h.perm (hpm _ _)
    have hk' : Kept (Reach w [mapS sb L, irP r]) w w' := hk.more fun b _ e => by
      rcases e with e | e
      · exact .inl ⟨_, List.mem_cons_self, by rw [e]; rfl⟩
      · exact .inl ⟨_, List.mem_cons_of_mem _ List.mem_cons_self, e⟩
    refine ⟨?_, Own.low h1.left hb0 hk'⟩
    rw [hpq]
    refine (Own.step h1 hb0 hk' hL' ?_).perm (hpm _ _).symm
    intro p hp b e
    rcases List.mem_cons.1 hp with rfl | hp
    · exact .inl ⟨_, List.mem_cons_self, e⟩
    · rw [List.mem_singleton.1 hp] at e
      rcases hB b e with e | e
      · exact .inl ⟨_, List.mem_cons_of_mem _ List.mem_cons_self, e⟩
      · exact .inr e
end
/-- a trace whose judge has such a map beside it -/
def JSd (wB : World) (g o : Nat) (l : List Ev) (R : List Pc) (n : Nat) (H : JH) (sb : Nat) (P : PlaceK → List Nat) (t : J) (w : World) : Prop := ∃ L, (∀ k, (rowI L k).l = P k) ∧ JTo wB g o l (sendP sb L ++ R) n H t w
theorem jp_comm (A B R : List Pc) : (A ++ (B ++ R)).Perm (B ++ (A ++ R)) := by
  rw [← List.append_assoc, ← List.append_assoc]
  exact List.Perm.append_right R List.perm_append_comm
theorem JTo.below {wB w w' : World} {g o n : Nat} {l : List Ev} {R : List Pc} {H : JH} {t : J} (h : JTo wB g o l R n H t w) (hb : Below w.heap.size w w') : JTo wB g o l R n H t w' := by
  obtain ⟨M, h1, h2⟩ := h
  exact ⟨M, h1.below hb, h2⟩
theorem JTo.bel {wB w : World} {g o n : Nat} {l : List Ev} {R : List Pc} {H : JH} {t : J} (h : JTo wB g o l R n H t w) : Below wB.heap.size wB w := by
  obtain ⟨M, h1, h2⟩ := h
  exact h1.bel
theorem JTo.br1 {wB w : World} {g o n : Nat} {l : List Ev} {R : List Pc} {H : JH} {t : J} (h : JTo wB g o l R n H t w) (r : Int) (b : Bool) :
    Calls Tryz.prog 22 #[.pointer (some ⟨H.T, 0, none⟩), .int .i64 r, .bool b] w fun e w' => e = .returned (.tuple #[]) ∧ JTo wB g o l R n H (t.br r b) w' := by
  obtain ⟨M, h1, h2, rfl, rfl⟩ := h
  exact JTo.brk h1 h2 r b
theorem JTo.drop {wB w : World} {g o n : Nat} {l : List Ev} {Q R : List Pc} {H : JH} {t : J} (h : JTo wB g o l (Q ++ R) n H t w) : JTo wB g o l R n H t w := by
  obtain ⟨M, h1, h2⟩ := h
  exact ⟨M, ⟨(h1.own.perm (jp_comm _ Q R)).sub (List.sublist_append_right Q _), h1.bel⟩, h2⟩
theorem JTo.new {wB w w' : World} {g o n : Nat} {l : List Ev} {R : List Pc} {H : JH} {t : J} (h : JTo wB g o l R n H t w) (q : Pc) (hb : Below w.heap.size w w') (hq : q.ok w') (hB : ∀ b, q.blk = some b → w.heap.size ≤ b) : JTo wB g o l (q :: R) n H t w' := by
  obtain ⟨M, h1, h2⟩ := h
  exact ⟨M, (h1.new q hb hq hB).perm List.perm_middle.symm, h2⟩
/-- parts beside the judge change -/
theorem JTo.aside {wB w w' : World} {g o n : Nat} {l : List Ev} {A A' R : List Pc} {H : JH} {t : J} (h : JTo wB g o l (A ++ R) n H t w)
    (hs : ∀ R', Own w wB.heap.size (A ++ R') → Own w' wB.heap.size (A' ++ R') ∧ Kept (fun k => wB.heap.size ≤ k) w w') : JTo wB g o l (A' ++ R) n H t w' := by
  obtain ⟨M, h1, h2⟩ := h
  obtain ⟨h3, h4⟩ := hs _ (h1.own.perm (jp_comm _ A R))
  exact ⟨M, h1.next (h3.perm (jp_comm A' _ R)) h4, h2⟩
theorem JTo.part {wB w : World} {g o n : Nat} {l : List Ev} {R : List Pc} {H : JH} {t : J} (h : JTo wB g o l R n H t w) {p : Pc} (hp : p ∈ R) : p.ok w := by
  obtain ⟨M, h1, h2⟩ := h
  exact h1.own.ok p (List.mem_append_right _ hp)
/-- the trace's own cells -/
theorem JTo.trace {wB w : World} {g o n : Nat} {l : List Ev} {R : List Pc} {H : JH} {t : J} (h : JTo wB g o l R n H t w) : H.ll = l.length ∧ (0 < l.length → H.la = some ⟨g, o, none⟩) ∧ (∀ y : Bel w, y.val.cell? ⟨H.T, 0, none⟩ = some (.slice H.la H.ll H.lc)) := by
  obtain ⟨M, h1, h2, rfl, rfl⟩ := h
  exact ⟨h2.ll, h2.la, tcell h1.own 0 (v := .slice M.h.la M.h.ll M.h.lc) rfl⟩
theorem msgR_of {w : World} {x : Ev} (h : EvOk w x) : MsgR w x.m := by
  refine ⟨fun i hi => ?_, by have := h.dl; omega⟩
  obtain ⟨⟨b, off, spot⟩, e, hp, hc⟩ := h.rd.2 (by omega)
  have hnum : ∀ k (hk : k < x.m.ds.length), (numsM x.m.ds)[k]? = some (.int .u32 (x.m.ds[k] : Int)) := fun k hk => by
    unfold numsM
    rw [List.getElem?_map, List.getElem?_eq_getElem hk]
    rfl
  have hz := hc 0 _ (hnum 0 (by omega))
  have hspot : spot = none := by simpa [Addr.add] using World.cell?_spot hz
  subst hspot
  refine ⟨b, off, e, hp, ?_⟩
  have := hc i _ (hnum i hi)
  rwa [show (⟨b, off, none⟩ : Addr).add i = ⟨b, off + i, none⟩ from by unfold Addr.add; split <;> simp_all] at this
/-- in plain -/
theorem sentL_succ (l : List Ev) (i : Nat) (k : PlaceK) : sentL l (i + 1) k = sentL l i k ++ (if sentAt l k i = true then [i] else []) := by
  unfold sentL
  rw [List.range_succ, List.filter_append, List.filter_cons, List.filter_nil]
theorem sentL_lt {l : List Ev} {i j : Nat} {k : PlaceK} (h : j ∈ sentL l i k) : j < i := List.mem_range.1 (List.mem_filter.1 h).1
end Go.Proofs.YtogagkgkmoppmaaGreatDoor
