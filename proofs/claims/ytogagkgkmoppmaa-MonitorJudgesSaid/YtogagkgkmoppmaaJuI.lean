/-
  The judge: an event of an incarnation.
  Conditions: those that each theorem names.
-/
import Derived.Test.YtogagkgkmoppmaaJuH
import Derived.Deep.CutBlock
namespace Go.Proofs.Ytogagkgkmoppmaa
set_option linter.unusedVariables false
set_option linter.unusedSimpArgs false
open Go.RowKit GM
/-- a message more that came up -/
def JX.upp (x : JX) (p : Nat) (ad : Option Addr) (cap : Nat) : JX := { x with s := { x.s with ups := x.s.ups ++ [p] }, ua := ad, uc := cap }
theorem upsV_snoc (l : List Ev) (L : List Nat) (p : Nat) : upsV l (L ++ [p]) = upsV l L ++ (msgA (evMsg l p)).toList := by
  unfold upsV
  rw [List.map_append, List.map_cons, List.map_nil, rowsM_snoc]
theorem jown_upp {wB w w11 : World} {g o k : Nat} {l : List Ev} {M : JM} {R : List Pc} (h : At wB (jparts g o l M ++ R) w) (hk : k < M.stays.length) (p : Nat) (ad : Option Addr) (cap : Nat)
    (hrow : w11.ownsRow 0 34 6 (.slice ad (M.stays[k].s.ups.length + 1) cap) (M.stays[k].s.ups.length + 1) (upsV l (M.stays[k].s.ups ++ [p])))
    (hK : Kept (fun b => (sUps l M.stays[k]).blk = some b) w w11) (hB : ∀ b, (Value.slice ad (M.stays[k].s.ups.length + 1) cap).ownBlock = some b → (sUps l M.stays[k]).blk = some b ∨ w.heap.size ≤ b) :
    w11.heap[M.stays[k].b]? = some (.cells (jsC g o M.stays[k]) 109 (0, 0)) ∧ At wB (jparts g o l (M.setS k (M.stays[k].upp p ad cap)) ++ R) (w11.setCell ⟨M.stays[k].b, 10, none⟩ (.slice ad (M.stays[k].s.ups.length + 1) cap)) := by
  obtain ⟨y, hy⟩ : ∃ y, y = M.stays[k] := ⟨_, rfl⟩
  rw [← hy] at hrow hK hB ⊢
  have hym : y ∈ M.stays := hy ▸ List.getElem_mem hk
  have hst := jown_st h.own hym
  have hnb : ¬ (sUps l y).blk = some y.b := fun e => by
    obtain ⟨c, fz, hc⟩ := Lib.ownsRow_kind (jown_ups h.own hym) y.b e
    rw [hst] at hc
    injection hc with hc
    injection hc with _ hc _
    exact absurd hc (by decide)
  have hst11 := hK.keep hst hnb
  refine ⟨hst11, ?_⟩
  have hK2 := keptS w11 ⟨y.b, 10, none⟩ (.slice ad (y.s.ups.length + 1) cap)
  have hlt : y.b < w.heap.size := (Array.getElem?_eq_some_iff.1 hst).1
  have hnew : ∀ b, (Value.slice ad (y.s.ups.length + 1) cap).ownBlock = some b → b ≠ y.b := fun b hb e => by
    rcases hB b hb with g | g
    · exact hnb (e ▸ g)
    · omega
  have hrow2 := own_keptS hrow hK2 (fun b hb e => hnew b hb e)
  have hu : (sGots l y).ok w := jown_gots h.own hym
  have hap : ∀ b, (sUps l y).blk = some b → (sGots l y).blk ≠ some b := fun b hb e => by
    obtain ⟨c, fz, hc⟩ := Lib.ownsRow_kind (jown_ups h.own hym) b hb
    obtain ⟨c', fz', hc'⟩ := Lib.ownsRow_kind (jown_gots h.own hym) b e
    rw [hc] at hc'
    injection hc' with hc'
    injection hc' with _ hc' _
    exact absurd hc' (by decide)
  have hupb : ∀ b, (sGots l y).blk = some b → b ≠ y.b := fun b hb e => by
    obtain ⟨c, fz, hc⟩ := Lib.ownsRow_kind (jown_gots h.own hym) b hb
    rw [e, hst] at hc
    injection hc with hc
    injection hc with _ hc _
    exact absurd hc (by decide)
  have hups2 : (w11.setCell ⟨y.b, 10, none⟩ (.slice ad (y.s.ups.length + 1) cap)).ownsRow 0 111 8 (.slice y.ga y.s.gots.length y.gc) y.s.gots.length (gotsV l y.s.gots) :=
    own_keptS (own_keptS (jown_gots h.own hym) hK (fun b hb e => hap b e hb)) hK2 (fun b hb e => hupb b hb e)
  have hcell : (w11.setCell ⟨y.b, 10, none⟩ (.slice ad (y.s.ups.length + 1) cap)).heap[y.b]? = some (.cells (jsC g o (y.upp p ad cap)) 109 (0, 0)) := by
    rw [setCell_block hst11 10 _]
    have : (y.upp p ad cap).s.ups.length = y.s.ups.length + 1 := by simp [JX.upp]
    unfold jsC
    rw [this]
    rfl
  have hlen : (y.s.ups ++ [p]).length = y.s.ups.length + 1 := by simp
  refine jown_set h hk (x := y.upp p ad cap) (by rw [← hy]; rfl) ?_ ?_ ?_
  · rw [← hy]
    refine (hK.more fun b _ e => .inl ⟨sUps l y, by simp [sP], e⟩).trans ?_
    refine ⟨hK2.os, hK2.tape, hK2.output, hK2.size, fun i hi hn => hK2.block i hi (fun e => hn (.inl ⟨sCells g o y, by simp [sP], congrArg some e.symm⟩))⟩
  · refine ⟨fun q hq => ?_, fun _ _ _ _ => Nat.zero_le _, ?_⟩
    · simp only [sP, List.mem_cons, List.not_mem_nil, or_false] at hq
      rcases hq with rfl | rfl | rfl
      · exact hcell
      · exact hups2
      · show (w11.setCell ⟨y.b, 10, none⟩ _).ownsRow 0 34 6 (.slice ad (y.s.ups ++ [p]).length cap) (y.s.ups ++ [p]).length (upsV l (y.s.ups ++ [p]))
        rw [hlen]
        exact hrow2
    · refine List.pairwise_cons.2 ⟨fun q hq b e => ?_, List.pairwise_cons.2 ⟨fun q hq b e => ?_, List.pairwise_singleton _ _⟩⟩
      · injection e with e
        have e : y.b = b := e
        simp only [List.mem_cons, List.not_mem_nil, or_false] at hq
        rcases hq with rfl | rfl
        · exact fun h2 => hupb b h2 e.symm
        · intro h2
          have h2 : (Value.slice ad (y.s.ups ++ [p]).length cap).ownBlock = some b := h2
          rw [hlen] at h2
          exact hnew b h2 e.symm
      · rw [List.mem_singleton.1 hq]
        intro h2
        have h2 : (Value.slice ad (y.s.ups ++ [p]).length cap).ownBlock = some b := h2
        rw [hlen] at h2
        have e : (sGots l y).blk = some b := e
        rcases hB b h2 with g | g
        · exact hap b g e
        · have := ((sGots l y).lt w b hu e).1
          omega
  · rw [← hy]
    intro q hq b e
    simp only [sP, List.mem_cons, List.not_mem_nil, or_false] at hq
    rcases hq with rfl | rfl | rfl
    · exact .inl ⟨sCells g o y, by simp [sP], e⟩
    · exact .inl ⟨sGots l y, by simp [sP], e⟩
    · have e : (Value.slice ad (y.s.ups ++ [p]).length cap).ownBlock = some b := e
      rw [hlen] at e
      rcases hB b e with g | g
      · exact .inl ⟨sUps l y, by simp [sP], g⟩
      · exact .inr g
/-- the stay that is asked, its memory -/
theorem mineAt_lt {g o n : Nat} {l : List Ev} {M : JM} (hJ : JOk g o l n M) (x : Ev) (s : Option Nat) (hs : ∀ k, s = some k → k < M.stays.length) : ∀ k, (projJ M).mineAt x s = some k → k < M.stays.length := by
  intro k hk
  unfold J.mineAt at hk
  cases s with
  | none => cases hk
  | some j =>
    have hj := hs j rfl
    simp only [proj_at hj] at hk
    split at hk
    · next hc =>
      have hx := (hJ.st _ (List.getElem_mem hj)).bf
      cases hb : M.stays[j].s.bf with
      | none => rw [hb] at hk; cases hk
      | some q =>
        rw [hb] at hx hk
        injection hk with hk
        obtain ⟨y, hy, _⟩ := hx
        rw [← hk]
        exact (List.getElem?_eq_some_iff.1 hy).1
    · injection hk with hk
      rw [← hk]
      exact hj
end Go.Proofs.Ytogagkgkmoppmaa
