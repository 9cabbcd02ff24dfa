/-
  The judge: rows of a stay's deliveries; an EvSend, EvDeliver or EvTrans, up to its last append.
  Conditions: those that each theorem names.
-/
import Derived.Test.YtogagkgkmoppmaaJuC
namespace Go.Proofs.Ytogagkgkmoppmaa
set_option linter.unusedVariables false
set_option linter.unusedSimpArgs false
open Go.RowKit GM
/-- what has become of a judge, in plain -/
def JTo (wB : World) (g o : Nat) (l : List Ev) (R : List Pc) (n : Nat) (H : JH) (t : J) (w' : World) : Prop := ∃ M', At wB (jparts g o l M' ++ R) w' ∧ JOk g o l n M' ∧ projJ M' = t ∧ M'.h = H
def sV (M : JM) (s : Option Nat) : Value := match s with
  | none => .pointer none
  | some k => nthJ M.stays k
theorem nthJ_at {L : List JX} {k : Nat} (h : k < L.length) : nthJ L k = ptrV L[k].b := by
  unfold nthJ
  simp [h]
theorem gotC_len (l : List Ev) (p : Nat × Bool) : (gotC l p).length = 8 := rfl
theorem gotsV_snoc (l : List Ev) (L : List (Nat × Bool)) (p : Nat × Bool) : gotsV l (L ++ [p]) = gotsV l L ++ gotC l p := by simp [gotsV]
theorem gotC_one (l : List Ev) (p : Nat × Bool) : ∀ u ∈ gotC l p, u.oneCell' = true := by
  intro u hu
  simp [gotC, msgA] at hu
  rcases hu with rfl | rfl | rfl | rfl | rfl | rfl | rfl | rfl <;> rfl
theorem gotsV_at (l : List Ev) (L : List (Nat × Bool)) (i : Nat) (hi : i < L.length) (j : Nat) (u : Value) (h : (gotC l L[i])[j]? = some u) : (gotsV l L)[i * 8 + j]? = some u := by
  induction L generalizing i with
  | nil => simp at hi
  | cons p L ih =>
    have hj : j < 8 := (List.getElem?_eq_some_iff.1 h).1
    cases i with
    | zero =>
      show (gotC l p ++ gotsV l L)[0 * 8 + j]? = some u
      rw [Nat.zero_mul, Nat.zero_add, List.getElem?_append_left (by rw [gotC_len]; exact hj)]
      exact h
    | succ i =>
      show (gotC l p ++ gotsV l L)[(i + 1) * 8 + j]? = some u
      rw [List.getElem?_append_right (by rw [gotC_len]; omega), gotC_len]
      have := ih i (by simpa using hi) h
      rwa [show (i + 1) * 8 + j - 8 = i * 8 + j by omega]
theorem info111 : (Try.prog.info? 111).map (fun i => (i.zero, i.size, i.bytes)) = some (some (.agg (#[.int .i64 0] ++ msgA zeroM ++ #[.bool false])), 8, 88) := by kernel_rfl
theorem bldG (a : Int) (m : Msg) (b : Bool) : Try.prog.built 111 [(0, .int .i64 a), (1, .agg (msgA m).toList.toArray), (2, .bool b)] = some (Value.int .i64 a :: ((msgA m).toList ++ [.bool b])).toArray := by kernel_rfl
theorem evMsg_at {l : List Ev} {i : Nat} {x : Ev} (h : l[i]? = some x) : evMsg l i = x.m := by unfold evMsg; rw [h]
/-- a delivery more -/
def JX.got (x : JX) (p : Nat × Bool) (ad : Option Addr) (cap : Nat) : JX := { x with s := { x.s with gots := x.s.gots ++ [p] }, ga := ad, gc := cap }
theorem jown_got {wB w w11 : World} {g o k : Nat} {l : List Ev} {M : JM} {R : List Pc} (h : At wB (jparts g o l M ++ R) w) (hk : k < M.stays.length) (p : Nat × Bool) (ad : Option Addr) (cap : Nat)
    (hrow : w11.ownsRow 0 111 8 (.slice ad (M.stays[k].s.gots.length + 1) cap) (M.stays[k].s.gots.length + 1) (gotsV l (M.stays[k].s.gots ++ [p])))
    (hK : Kept (fun b => (sGots l M.stays[k]).blk = some b) w w11) (hB : ∀ b, (Value.slice ad (M.stays[k].s.gots.length + 1) cap).ownBlock = some b → (sGots l M.stays[k]).blk = some b ∨ w.heap.size ≤ b) :
    w11.heap[M.stays[k].b]? = some (.cells (jsC g o M.stays[k]) 109 (0, 0)) ∧ At wB (jparts g o l (M.setS k (M.stays[k].got p ad cap)) ++ R) (w11.setCell ⟨M.stays[k].b, 4, none⟩ (.slice ad (M.stays[k].s.gots.length + 1) cap)) := by
  obtain ⟨y, hy⟩ : ∃ y, y = M.stays[k] := ⟨_, rfl⟩
  rw [← hy] at hrow hK hB ⊢
  have hym : y ∈ M.stays := hy ▸ List.getElem_mem hk
  have hst := jown_st h.own hym
  have hnb : ¬ (sGots l y).blk = some y.b := fun e => by
    obtain ⟨c, fz, hc⟩ := Lib.ownsRow_kind (jown_gots h.own hym) y.b e
    rw [hst] at hc
    injection hc with hc
    injection hc with _ hc _
    exact absurd hc (by decide)
  have hst11 := hK.keep hst hnb
  refine ⟨hst11, ?_⟩
  have hK2 := keptS w11 ⟨y.b, 4, none⟩ (.slice ad (y.s.gots.length + 1) cap)
  have hlt : y.b < w.heap.size := (Array.getElem?_eq_some_iff.1 hst).1
  have hnew : ∀ b, (Value.slice ad (y.s.gots.length + 1) cap).ownBlock = some b → b ≠ y.b := fun b hb e => by
    rcases hB b hb with g | g
    · exact hnb (e ▸ g)
    · omega
  have hrow2 := own_keptS hrow hK2 (fun b hb e => hnew b hb e)
  have hu : (sUps l y).ok w := jown_ups h.own hym
  have hap : ∀ b, (sGots l y).blk = some b → (sUps l y).blk ≠ some b := fun b hb e => by
    obtain ⟨c, fz, hc⟩ := Lib.ownsRow_kind (jown_gots h.own hym) b hb
    obtain ⟨c', fz', hc'⟩ := Lib.ownsRow_kind (jown_ups h.own hym) b e
    rw [hc] at hc'
    injection hc' with hc'
    injection hc' with _ hc' _
    exact absurd hc' (by decide)
  have hupb : ∀ b, (sUps l y).blk = some b → b ≠ y.b := fun b hb e => by
    obtain ⟨c, fz, hc⟩ := Lib.ownsRow_kind (jown_ups h.own hym) b hb
    rw [e, hst] at hc
    injection hc with hc
    injection hc with _ hc _
    exact absurd hc (by decide)
  have hups2 : (w11.setCell ⟨y.b, 4, none⟩ (.slice ad (y.s.gots.length + 1) cap)).ownsRow 0 34 6 (.slice y.ua y.s.ups.length y.uc) y.s.ups.length (upsV l y.s.ups) :=
    own_keptS (own_keptS (jown_ups h.own hym) hK (fun b hb e => hap b e hb)) hK2 (fun b hb e => hupb b hb e)
  have hcell : (w11.setCell ⟨y.b, 4, none⟩ (.slice ad (y.s.gots.length + 1) cap)).heap[y.b]? = some (.cells (jsC g o (y.got p ad cap)) 109 (0, 0)) := by
    rw [setCell_block hst11 4 _]
    have : (y.got p ad cap).s.gots.length = y.s.gots.length + 1 := by simp [JX.got]
    unfold jsC
    rw [this]
    rfl
  refine jown_set h hk (x := y.got p ad cap) (by rw [← hy]; rfl) ?_ ?_ ?_
  · rw [← hy]
    refine (hK.more fun b _ e => .inl ⟨sGots l y, by simp [sP], e⟩).trans ?_
    refine ⟨hK2.os, hK2.tape, hK2.output, hK2.size, fun i hi hn => hK2.block i hi (fun e => hn (.inl ⟨sCells g o y, by simp [sP], congrArg some e.symm⟩))⟩
  · refine ⟨fun q hq => ?_, fun _ _ _ _ => Nat.zero_le _, ?_⟩
    · simp only [sP, List.mem_cons, List.not_mem_nil, or_false] at hq
      rcases hq with rfl | rfl | rfl
      · exact hcell
      · show (w11.setCell ⟨y.b, 4, none⟩ _).ownsRow 0 111 8 (.slice ad (y.s.gots ++ [p]).length cap) (y.s.gots ++ [p]).length (gotsV l (y.s.gots ++ [p]))
        rw [show (y.s.gots ++ [p]).length = y.s.gots.length + 1 from by simp]
        exact hrow2
      · exact hups2
    · refine List.pairwise_cons.2 ⟨fun q hq b e => ?_, List.pairwise_cons.2 ⟨fun q hq b e => ?_, List.pairwise_singleton _ _⟩⟩
      · injection e with e
        have e : y.b = b := e
        simp only [List.mem_cons, List.not_mem_nil, or_false] at hq
        rcases hq with rfl | rfl
        · intro h2
          have h2 : (Value.slice ad (y.s.gots ++ [p]).length cap).ownBlock = some b := h2
          rw [show (y.s.gots ++ [p]).length = y.s.gots.length + 1 from by simp] at h2
          exact hnew b h2 e.symm
        · exact fun h2 => hupb b h2 e.symm
      · rw [List.mem_singleton.1 hq]
        intro h2
        have e : (Value.slice ad (y.s.gots ++ [p]).length cap).ownBlock = some b := e
        rw [show (y.s.gots ++ [p]).length = y.s.gots.length + 1 from by simp] at e
        rcases hB b e with g | g
        · exact hap b g h2
        · have := ((sUps l y).lt w b hu h2).1
          omega
  · rw [← hy]
    intro q hq b e
    simp only [sP, List.mem_cons, List.not_mem_nil, or_false] at hq
    rcases hq with rfl | rfl | rfl
    · exact .inl ⟨sCells g o y, by simp [sP], e⟩
    · have e : (Value.slice ad (y.s.gots ++ [p]).length cap).ownBlock = some b := e
      rw [show (y.s.gots ++ [p]).length = y.s.gots.length + 1 from by simp] at e
      rcases hB b e with g | g
      · exact .inl ⟨sGots l y, by simp [sP], g⟩
      · exact .inr g
    · exact .inl ⟨sUps l y, by simp [sP], e⟩
end Go.Proofs.Ytogagkgkmoppmaa
