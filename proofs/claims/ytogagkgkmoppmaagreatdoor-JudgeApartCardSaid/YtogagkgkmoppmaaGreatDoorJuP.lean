/-
  The judge: only what is broken changes.
  Conditions: those that each theorem names.
-/
import Derived.Test.YtogagkgkmoppmaaGreatDoorJuO
namespace Go.Proofs.YtogagkgkmoppmaaGreatDoor
set_option linter.unusedVariables false
set_option linter.unusedSimpArgs false
open Go.RowKit GM
def JM.bd (M : JM) (b : List (Int × Bool)) : JM := { M with bad := b }
/-- a judge of which only what is broken has changed -/
def JB (wB : World) (g o : Nat) (l : List Ev) (R : List Pc) (n : Nat) (M : JM) (t : J) (w : World) : Prop := ∃ b, At wB (jparts g o l (M.bd b) ++ R) w ∧ JOk g o l n (M.bd b) ∧ projJ (M.bd b) = t
section
variable {wB w w' : World} {g o n : Nat} {l : List Ev} {R : List Pc} {M : JM} {t : J}
theorem JB.of {H : JH} (h : JTo wB g o l R n H t w) : ∃ M, JB wB g o l R n M t w ∧ M.h = H := by
  obtain ⟨M, h1, h2, h3, h4⟩ := h
  exact ⟨M, ⟨M.bad, h1, h2, h3⟩, h4⟩
theorem JB.to (h : JB wB g o l R n M t w) : JTo wB g o l R n M.h t w := by
  obtain ⟨b, h1, h2, h3⟩ := h
  exact ⟨M.bd b, h1, h2, h3, rfl⟩
theorem JB.below (h : JB wB g o l R n M t w) (hb : Below w.heap.size w w') : JB wB g o l R n M t w' := by
  obtain ⟨b, h1, h2⟩ := h
  exact ⟨b, h1.below hb, h2⟩
theorem JB.bel (h : JB wB g o l R n M t w) : Below wB.heap.size wB w := by
  obtain ⟨b, h1, h2⟩ := h
  exact h1.bel
theorem JB.br1 (h : JB wB g o l R n M t w) (r : Int) (b : Bool) :
    Calls Tryz.prog 22 #[.pointer (some ⟨M.h.T, 0, none⟩), .int .i64 r, .bool b] w fun e w' => e = .returned (.tuple #[]) ∧ JB wB g o l R n M (t.br r b) w' := by
  obtain ⟨bd, h1, h2, rfl⟩ := h
  refine (jbreaks_any h1 r b).mono fun e w' ⟨h3, h4⟩ => ⟨h3, if b = true then put bd r true else bd, ?_⟩
  have e : (M.bd bd).br r b = M.bd (if b = true then put bd r true else bd) := by
    unfold JM.br
    cases b <;> rfl
  rw [← e]
  exact ⟨h4, h2.br r b, projJ_br _ r b⟩
theorem JB.drop {Q : List Pc} (h : JB wB g o l (Q ++ R) n M t w) : JB wB g o l R n M t w := by
  obtain ⟨b, h1, h2⟩ := h
  exact ⟨b, ⟨(h1.own.perm (jp_comm _ Q R)).sub (List.sublist_append_right Q _), h1.bel⟩, h2⟩
theorem JB.new (h : JB wB g o l R n M t w) (q : Pc) (hb : Below w.heap.size w w') (hq : q.ok w') (hB : ∀ b, q.blk = some b → w.heap.size ≤ b) : JB wB g o l (q :: R) n M t w' := by
  obtain ⟨b, h1, h2⟩ := h
  exact ⟨b, (h1.new q hb hq hB).perm List.perm_middle.symm, h2⟩
theorem JB.perm {R' : List Pc} (h : JB wB g o l R n M t w) (hp : R.Perm R') : JB wB g o l R' n M t w := by
  obtain ⟨b, h1, h2⟩ := h
  exact ⟨b, h1.perm (List.Perm.append_left _ hp), h2⟩
/-- a map beside it changes -/
theorem JB.map {α β : Type} [DecidableEq α] {f : α → Value} {v : β → Value} {mb : Nat} {S S' : List (α × β)} (h : JB wB g o l (mapPc f mb (vals v S) :: R) n M t w) (hg : GMap f w' mb (vals v S')) (hgr : w.grownBy w' (some mb)) : JB wB g o l (mapPc f mb (vals v S') :: R) n M t w' := by
  obtain ⟨b, h1, h2⟩ := h
  have h3 : Own w wB.heap.size (mapPc f mb (vals v S) :: (jparts g o l (M.bd b) ++ R)) := h1.own.perm List.perm_middle
  obtain ⟨h4, h5⟩ := own_at 0 (mapPc f mb (vals v S')) h3 h1.bel.size (p := mapPc f mb (vals v S)) rfl ((Kept.of_grown hgr).more fun k _ e => by rw [e]; rfl) hg (fun b e => .inl e)
  exact ⟨b, h1.next (h4.perm List.perm_middle.symm) h5, h2⟩
theorem JB.part (h : JB wB g o l R n M t w) {p : Pc} (hp : p ∈ R) : p.ok w := by
  obtain ⟨b, h1, h2⟩ := h
  exact h1.own.ok p (List.mem_append_right _ hp)
theorem JB.trace (h : JB wB g o l R n M t w) : M.h.ll = l.length ∧ (0 < l.length → M.h.la = some ⟨g, o, none⟩) ∧ (∀ y : Bel w, y.val.cell? ⟨M.h.T, 0, none⟩ = some (.slice M.h.la M.h.ll M.h.lc)) ∧ (∀ y : Bel w, y.val.cell? ⟨M.h.T, 1, none⟩ = some (.slice M.sa M.stays.length M.sc)) := by
  obtain ⟨b, h1, h2, _⟩ := h
  exact ⟨h2.ll, h2.la, tcell h1.own 0 (v := .slice M.h.la M.h.ll M.h.lc) rfl, tcell h1.own 1 (v := .slice M.sa M.stays.length M.sc) rfl⟩
theorem JB.stays (h : JB wB g o l R n M t w) : t.stays = M.stays.map (·.s) := by
  obtain ⟨b, _, _, rfl⟩ := h
  rfl
theorem JB.xok (h : JB wB g o l R n M t w) {x : JX} (hx : x ∈ M.stays) : JXOk l M.stays n x := by
  obtain ⟨b, _, h2, _⟩ := h
  exact h2.st x hx
theorem JB.cnt (h : JB wB g o l R n M t w) : M.stays.length ≤ n := by
  obtain ⟨b, _, h2, _⟩ := h
  exact h2.n
theorem JB.nth (h : JB wB g o l R n M t w) {k : Nat} (hk : k < M.stays.length) : ∃ b, M.sa = some ⟨b, 0, none⟩ ∧ b < w.heap.size ∧ w.cell? ⟨b, k, none⟩ = some (ptrV M.stays[k].b) := by
  obtain ⟨b, h1, _⟩ := h
  exact jown_nth h1.own (M := M.bd b) hk
theorem JB.st (h : JB wB g o l R n M t w) {x : JX} (hx : x ∈ M.stays) : w.heap[x.b]? = some (.cells (jsC g o x) 56 (0, 0)) := by
  obtain ⟨b, h1, _⟩ := h
  exact jown_st (M := M.bd b) h1.own hx
theorem JB.gots (h : JB wB g o l R n M t w) {nm : Nat → List NameK} (hT : Tr wB g o l nm) (hn : n ≤ 1000000) {x : JX} (hx : x ∈ M.stays) : RdG w l x.ga x.s.gots := by
  obtain ⟨b, h1, h2, _⟩ := h
  have hr := jown_gots (M := M.bd b) h1.own hx
  refine ⟨Nat.le_trans (h2.st x hx).gl hn, fun i hi => ⟨?_, ?_⟩⟩
  · have hl : x.s.gots[i].1 < l.length := (h2.st x hx).gots _ (List.getElem_mem hi)
    have hxl : l[x.s.gots[i].1]? = some l[x.s.gots[i].1] := List.getElem?_eq_getElem hl
    unfold gotM
    rw [evMsg_at hxl]
    exact msgR_of ((hT.below h1.bel).ok hxl)
  · obtain ⟨q, c, hv, hg0, hg1⟩ := hr.form (by omega)
    injection hv with e1 e2 e3
    refine ⟨q, 0, e1, hg1, fun j u hu => ?_⟩
    have := hr.cells (g := q) (by rw [e1]; rfl) (i * 8 + j) u (gotsV_at l x.s.gots i hi j u hu)
    rwa [show (⟨q, 0, none⟩ : Addr).add (i * 8 + j) = ⟨q, 0 + i * 8 + j, none⟩ from by unfold Addr.add; split <;> simp_all] at this
end
/-- a map is made beside it -/
theorem JB.made {α β : Type} [DecidableEq α] (f : α → Value) (v : β → Value) {wB w : World} {g o n : Nat} {l : List Ev} {R : List Pc} {M : JM} {t : J} (h : JB wB g o l R n M t w) : JB wB g o l (mapPc f w.heap.size (vals v ([] : List (α × β))) :: R) n M t (w.alloc (.map #[] 0)) :=
  h.new _ (ba (br w) _) (GMap.made f w) (fun b e => by injection e with e; rw [← e]; exact Nat.le_refl _)
/-- a variable is made beside it -/
theorem JB.var {wB w : World} {g o n : Nat} {l : List Ev} {R : List Pc} {M : JM} {t : J} (h : JB wB g o l R n M t w) (cs : Array Value) (ty : TypeId) (h1 : ty ≠ 28) (h2 : ty ≠ 36) : JB wB g o l (varPc w.heap.size cs ty h1 h2 :: R) n M t (w.alloc (.cells cs ty)) :=
  h.new _ (ba (br w) _) (heap_alloc_new w _) (fun b e => by injection e with e; rw [← e]; exact Nat.le_refl _)
end Go.Proofs.YtogagkgkmoppmaaGreatDoor
