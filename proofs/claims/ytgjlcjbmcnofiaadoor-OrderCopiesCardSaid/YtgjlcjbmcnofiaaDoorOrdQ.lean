/-
  OrderCopies: rows of acts upon two orders that read alike (plain); do beside another order; the copy beside its order.
  Conditions: those that each theorem names.
-/
import Derived.Test.YtgjlcjbmcnofiaaDoorOrdP
namespace Go.Proofs.YtgjlcjbmcnofiaaDoor
set_option linter.unusedVariables false
set_option linter.unusedSimpArgs false
open Go.RowKit
theorem DoTo.inv {a : ActO} {O O' : PO} {L : List Msg} {k : Nat} (h : DoTo a O O' L) (hi : InvO k O) (hd : a.m.ds.length ≤ 20000) : InvO (k + 1) O' := by
  unfold DoTo at h
  split at h
  · rcases h.2 with ⟨_, rfl⟩ | ⟨hz, m', hc, rfl⟩
    · exact hi.more
    · exact hi.take hz hc hd
  · split at h
    · obtain ⟨_, rfl⟩ := h
      exact (hi.more).setH (hi.hz.promise _ _ _)
    · split at h
      · obtain ⟨_, rfl⟩ := h
        exact (hi.setH (hi.hz.reached _ _)).more
      · split at h
        · exact (hi.drn h.1).more
        · split at h
          · obtain ⟨_, rfl⟩ := h
            exact hi.trim _ _
          · obtain ⟨_, rfl⟩ := h
            exact hi.more
theorem DoTo.rel {a : ActO} {O O' T T' : PO} {L L2 : List Msg} (hr : PRel O T) (h : DoTo a O O' L) (h2 : DoTo a T T' L2) : PRel O' T' ∧ L2.map core = L.map core := by
  unfold DoTo at h h2
  by_cases k0 : a.kind = 0
  · rw [if_pos k0] at h h2
    obtain ⟨rfl, h⟩ := h
    obtain ⟨rfl, h2⟩ := h2
    refine ⟨?_, rfl⟩
    rcases h with ⟨hz, rfl⟩ | ⟨hz, m1, c1, rfl⟩
    · rcases h2 with ⟨_, rfl⟩ | ⟨hz2, _⟩
      · exact hr
      · exact absurd ((hr.takeZ _).symm.trans hz2) hz
    · rcases h2 with ⟨hz2, _⟩ | ⟨_, m2, c2, rfl⟩
      · exact absurd ((hr.takeZ _).trans hz) hz2
      · exact hr.take c1 c2
  · rw [if_neg k0] at h h2
    by_cases k1 : a.kind = 1
    · rw [if_pos k1] at h h2
      obtain ⟨rfl, rfl⟩ := h
      obtain ⟨rfl, rfl⟩ := h2
      exact ⟨hr.setH (fun H => H.promise a.p a.stamp a.seq), rfl⟩
    · rw [if_neg k1] at h h2
      by_cases k2 : a.kind = 2
      · rw [if_pos k2] at h h2
        obtain ⟨rfl, rfl⟩ := h
        obtain ⟨rfl, rfl⟩ := h2
        exact ⟨hr.setH (fun H => H.reached a.p a.stamp), rfl⟩
      · rw [if_neg k2] at h h2
        by_cases k3 : a.kind = 3 ∨ a.kind = 4
        · rw [if_pos k3] at h h2
          obtain ⟨e1, e2⟩ := hr.drain h.1 h.2 h2.1 h2.2
          exact ⟨e2, e1⟩
        · rw [if_neg k3] at h h2
          by_cases k5 : a.kind = 5
          · rw [if_pos k5] at h h2
            obtain ⟨rfl, rfl⟩ := h
            obtain ⟨rfl, rfl⟩ := h2
            exact ⟨hr.trim _ _, rfl⟩
          · rw [if_neg k5] at h h2
            obtain ⟨rfl, rfl⟩ := h
            obtain ⟨rfl, rfl⟩ := h2
            exact ⟨hr, rfl⟩
/-- a row of acts -/
inductive Run : List ActO → PO → List Msg → PO → Prop
  | nil (O : PO) : Run [] O [] O
  | snoc {l : List ActO} {a : ActO} {O O1 O2 : PO} {L L' : List Msg} : Run l O L O1 → DoTo a O1 O2 L' → Run (l ++ [a]) O (L ++ L') O2
theorem Run.back {l : List ActO} {a : ActO} {O O2 : PO} {M : List Msg} (h : Run (l ++ [a]) O M O2) : ∃ L L' O1, M = L ++ L' ∧ Run l O L O1 ∧ DoTo a O1 O2 L' := by
  generalize hx : l ++ [a] = x at h
  cases h with
  | nil => exact absurd hx (by simp)
  | @snoc l' a' _ O1 _ L L' h1 h2 =>
    obtain ⟨e1, e2⟩ := List.append_inj' hx rfl
    injection e2 with e2
    subst e1; subst e2
    exact ⟨L, L', O1, rfl, h1, h2⟩
/-- the same acts upon orders that read alike -/
theorem Run.rel {l : List ActO} {O O' : PO} {L : List Msg} (h : Run l O L O') : ∀ {T T' : PO} {L2 : List Msg}, PRel O T → Run l T L2 T' → PRel O' T' ∧ L2.map core = L.map core := by
  induction h with
  | nil O =>
    intro T T' L2 hr h2
    generalize hx : ([] : List ActO) = x at h2
    cases h2 with
    | nil => exact ⟨hr, rfl⟩
    | snoc _ _ => exact absurd hx (by simp)
  | snoc h1 hd ih =>
    intro T T' L2 hr h2
    obtain ⟨K, K', T1, rfl, g1, g2⟩ := h2.back
    obtain ⟨r1, r2⟩ := ih hr g1
    obtain ⟨q1, q2⟩ := hd.rel r1 g2
    exact ⟨q1, by rw [List.map_append, List.map_append, r2, q2]⟩
theorem Run.inv {l : List ActO} {O O' : PO} {L : List Msg} (h : Run l O L O') {k : Nat} (hi : InvO k O) (hd : ∀ a ∈ l, a.m.ds.length ≤ 20000) : InvO (k + l.length) O' := by
  induction h with
  | nil => exact hi
  | snoc h1 h2 ih =>
    have := h2.inv (ih hi (fun a ha => hd a (List.mem_append_left _ ha))) (hd _ (by simp))
    rw [List.length_append, List.length_singleton, ← Nat.add_assoc]
    exact this
section
variable {w0 w w' : World} {B1 D1 Z1 B2 D2 Z2 : Nat} {O1 O2 : PO} {F : Nat → Prop}
/-- do upon the first of two orders -/
theorem Two.do1 (h : Two w0 w B1 D1 Z1 O1 B2 D2 Z2 O2 F) (a : ActO) (hk : OrOk O1) (hT : Tab w0) (hm : ∀ W, Below w0.heap.size w0 W → MsgOk W a.m) (hd : a.m.ds.length ≤ 20000) (hs : a.seq < 4294967296) :
    Calls Tryd.prog 31 #[.pointer (some ⟨B1, 0, none⟩), .agg (actL a).toArray] w fun e w' => ∃ L O' v, DoTo a O1 O' L ∧ e = .returned v ∧ RowO w.heap.size w' v L ∧ Two w0 w' B1 D1 Z1 O' B2 D2 Z2 O2 (fun b => F b ∨ v.ownBlock = some b) ∧ Keep F w w' := by
  obtain ⟨V1, U1, V2, U2, h1, h2, h3, h4⟩ := h
  refine (do_any a h1 hk hT hm hd hs).mono ?_
  rintro e w' ⟨L, O', v, d1, d2, d3, V, U, g1, g2, g3, g4, g5⟩
  refine ⟨L, O', v, d1, d2, d3, ?_, (Two.step1 h1 h2 h3 h4 ⟨V, U, g1, g2, g3, g4⟩).2⟩
  obtain ⟨L', d4, _, _⟩ := d3
  refine ⟨V, U, V2, U2, g1, h2.kept g2 (fun b hb e => h3 b e hb) h1.at_.calm h1.frm, fun b hb e => ?_, fun b hb => ?_⟩
  · rcases orS_new g3 g4 hb with x | x
    · exact h3 b x e
    · have := h2.at_.sz e
      omega
  · rcases hb with hb | hb
    · obtain ⟨a1, a2, a3⟩ := h4 b hb
      refine ⟨fun e => ?_, a2, Nat.lt_of_lt_of_le a3 g2.size⟩
      rcases orS_new g3 g4 e with x | x
      · exact a1 x
      · omega
    · have hl := d4.lt b hb
      exact ⟨g5 b hb, fun e => by have := h2.at_.sz e; omega, hl.2⟩
end
/-- the copy stands beside its order -/
theorem OrH.copy {w0 w : World} {B D Z : Nat} {O : PO} {V VH : Nat → Value} (h : OrH w0 w B D Z O V VH) (hk : OrOk O) :
    Calls Tryd.prog 32 #[.pointer (some ⟨B, 0, none⟩)] w fun e w' => ∃ N E F, e = .returned (.pointer (some ⟨N, 0, none⟩)) ∧ Two w0 w' B D Z O N E F O (fun _ => False) ∧ Below w.heap.size w w' := by
  refine (orCopy_any h.at_ hk).mono ?_
  rintro e w' ⟨N, E, F, V', U', rfl, h1, h2, hb⟩
  exact ⟨N, E, F, rfl, ⟨V, VH, V', U', h.below hb, ⟨h1, fun b hb' => Nat.le_trans h.bel.size (h2 b hb'), bt h.bel hb⟩, fun b hx hy => by
    have := h.at_.sz hx
    have := h2 b hy
    omega, fun b hb => hb.elim⟩, hb⟩
end Go.Proofs.YtgjlcjbmcnofiaaDoor
