/-
  A region that draws its order, whose last operations wait for all the others: what only reads may be taken first under a condition on the world that need not hold behind the last operations.
  Conditions: none; no program is named.
-/
import Derived.Test.YtgjlcjbmcnofiaaDoorTail
import Derived.Deep.RegionHeld3
namespace Go.Proofs.YtgjlcjbmcnofiaaDoor
set_option linter.unusedVariables false
open Go.RowKit
section
variable {P : Program} {ops : Array Oper} {Q : Exit → Act → World → Prop} {md : Region.Mode} {S : World → Prop} {n : Nat}
/-- whatever order is picked from here on, and S holds behind each of the first n operations -/
def wpAnyS (P : Program) (md : Region.Mode) (ops : Array Oper) (Q : Exit → Act → World → Prop) (S : World → Prop) (n : Nat) : Nat → Array Bool → Act → World → Prop
  | 0, listed, a, w => Region.ready md ops listed = [] ∧ Q .normal a w
  | fuel + 1, listed, a, w =>
    (Region.ready md ops listed = [] → Q .normal a w) ∧
    ∀ i ∈ Region.ready md ops listed, wpOp P ops Q i (fun a' w' => (i < n → S w') ∧ wpAnyS P md ops Q S n fuel (listed.setIfInBounds i true) a' w') a w
theorem wpAny_of_S : ∀ (fuel : Nat) (listed : Array Bool) (a : Act) (w : World), wpAnyS P md ops Q S n fuel listed a w → wpAny P md ops Q fuel listed a w
  | 0, _, _, _, h => h
  | fuel + 1, _, _, _, h => ⟨h.1, fun i hi => wpOp_mono (fun a' w' h' => wpAny_of_S fuel _ a' w' h'.2) (h.2 i hi)⟩
theorem wpAnyS_first {i : Nat} {oi : Oper} {v : Value} (hi : ops[i]? = some oi) (hsel : ∀ (j : Nat) (o : Oper) cs b, ops[j]? = some o → o.op ≠ .select cs b)
    (hQ : ∀ c a w, Q (.panic c) (a.put oi.dst v) w → Q (.panic c) a w) (hs : Region.sinkB md ops n = true) (hc : Region.chainB md ops n = true) (hn : n < ops.size) (hin : i < n) :
    ∀ (fuel : Nat) (listed : Array Bool) (a : Act) (w : World), HeadInv md ops n listed →
      (∀ j oj, ops[j]? = some oj → j ≠ i → listed.getD j true = false → (∀ e ∈ oj.after, Region.binds md e = true → e.on ≠ i) → oi.apart ops oj = true) →
      i ∈ Region.ready md ops listed → YieldsIf P ops S oi v a → S w →
      wpAnyS P md ops Q S n fuel (listed.setIfInBounds i true) (a.put oi.dst v) w → wpAnyS P md ops Q S n (fuel + 1) listed a w := by
  intro fuel
  induction fuel with
  | zero =>
    intro listed a w inv _ hr hy hS H
    refine ⟨fun h => (by rw [h] at hr; cases hr), fun j hj => ?_⟩
    by_cases hji : j = i
    · subst hji; exact hy.wpOp hi hS ⟨fun _ => hS, H⟩
    · have := ready_mono hj hji
      rw [H.1] at this
      cases this
  | succ fuel ih =>
    intro listed a w inv hfree hr hy hS H
    refine ⟨fun h => (by rw [h] at hr; cases hr), fun j hj => ?_⟩
    have hjn : j < n := Nat.lt_of_not_le fun hge => tail_waits hs hc hn inv _ i rfl hin (mem_ready.1 hr).1 j hge hj
    by_cases hji : j = i
    · subst hji; exact hy.wpOp hi hS ⟨fun _ => hS, H⟩
    · have h1 := H.2 j (ready_mono hj hji)
      obtain ⟨hjun, oj, hoj, hall⟩ := mem_ready.1 hj
      have hnot : ∀ e ∈ oj.after, Region.binds md e = true → e.on ≠ i := fun e he hb heq => by
        have h1 := hall e he hb
        rw [heq, getD_both (mem_ready.1 hr).1] at h1
        cases h1
      have h2 := wpOp_putIf hoj (hfree j oj hoj hji hjun hnot) (fun cs b => hsel i oi cs b hi) (fun cs b => hsel j oj cs b hoj) hQ hy h1
      have hfree' : ∀ k ok, ops[k]? = some ok → k ≠ i → (listed.setIfInBounds j true).getD k true = false →
          (∀ e ∈ ok.after, Region.binds md e = true → e.on ≠ i) → oi.apart ops ok = true := fun k ok hk hki hun hno => by
        refine hfree k ok hk hki ?_ hno
        by_cases hjk : j = k
        · subst hjk; exact hjun
        · rw [getD_set_ne true hjk] at hun; exact hun
      refine wpOp_mono (fun a' w' h3 => ⟨h3.2.1, ih (listed.setIfInBounds j true) a' w' (inv.set hj hjn) hfree' (ready_mono hr (Ne.symm hji)) h3.1 (h3.2.1 hjn) ?_⟩) h2
      rw [Array.setIfInBounds_comm _ _ hji]
      exact h3.2.2
/-- the operations that the mask marks, in the region's own order, each reading under S -/
def wpMask (P : Program) (ops : Array Oper) (S : World → Prop) (R : Act → Prop) : List Bool → List Oper → Act → Prop
  | true :: bs, o :: l, a => ∃ v, YieldsIf P ops S o v a ∧ wpMask P ops S R bs l (a.put o.dst v)
  | false :: bs, _ :: l, a => wpMask P ops S R bs l a
  | _, _, a => R a
def maskB (md : Region.Mode) (ops : Array Oper) (n : Nat) : List Bool → Nat → Array Bool → Bool
  | true :: bs, k, done => (Region.ready md ops done).contains k && Region.free md ops done k && decide (k < n) && maskB md ops n bs (k + 1) (done.setIfInBounds k true)
  | false :: bs, k, done => maskB md ops n bs (k + 1) done
  | [], _, _ => true
def maskDone : List Bool → Nat → Array Bool → Array Bool
  | true :: bs, k, done => maskDone bs (k + 1) (done.setIfInBounds k true)
  | false :: bs, k, done => maskDone bs (k + 1) done
  | [], _, done => done
theorem wpAnyS_mask {g : Nat} (hsel : Region.noSelect ops = true) (hQ : ∀ c a a' w, Q (.panic c) a w → Q (.panic c) a' w) (hs : Region.sinkB md ops n = true) (hc : Region.chainB md ops n = true) (hn : n < ops.size) {w : World} (hS : S w) :
    ∀ (bs : List Bool) (l : List Oper) (k : Nat) (done : Array Bool) (a : Act), bs.length = l.length → (∀ j, j < l.length → l[j]? = ops[k + j]?) → HeadInv md ops n done → maskB md ops n bs k done = true →
    wpMask P ops S (fun a' => wpAnyS P md ops Q S n g (maskDone bs k done) a' w) bs l a → wpAnyS P md ops Q S n (bs.count true + g) done a w
  | [], l, k, done, a, hlen, _, _, _, h => by
    simp only [List.count_nil, Nat.zero_add]
    cases l <;> simpa [wpMask, maskDone] using h
  | b :: bs, [], k, done, a, hlen, _, _, _, h => by simp at hlen
  | false :: bs, o :: l, k, done, a, hlen, hl, inv, hB, h => by
    rw [show (false :: bs).count true = bs.count true by simp]
    refine wpAnyS_mask hsel hQ hs hc hn hS bs l (k + 1) done a (by simpa using hlen) (fun j hj => ?_) inv (by simpa [maskB] using hB) h
    have := hl (j + 1) (by simp; omega)
    simpa [Nat.add_assoc, Nat.add_comm 1 j] using this
  | true :: bs, o :: l, k, done, a, hlen, hl, inv, hB, h => by
    have h0 : ops[k]? = some o := by simpa using (hl 0 (by simp)).symm
    simp only [maskB, Bool.and_eq_true, decide_eq_true_eq] at hB
    obtain ⟨⟨⟨hr, hf⟩, hkn⟩, hB'⟩ := hB
    have hr' : k ∈ Region.ready md ops done := by simpa using hr
    obtain ⟨v, hy, hK⟩ := h
    rw [show (true :: bs).count true + g = (bs.count true + g) + 1 by simp; omega]
    refine wpAnyS_first h0 (Region.noSelect_spec hsel) (fun c a w => hQ c _ _ w) hs hc hn hkn _ done a w inv (Region.free_spec h0 hf) hr' hy hS ?_
    refine wpAnyS_mask hsel hQ hs hc hn hS bs l (k + 1) _ _ (by simpa using hlen) (fun j hj => ?_) (inv.set hr' hkn) hB' hK
    have := hl (j + 1) (by simp; omega)
    simpa [Nat.add_assoc, Nat.add_comm 1 j] using this
def AllReadyS (P : Program) (md : Region.Mode) (ops : Array Oper) (Q : Exit → Act → World → Prop) (S : World → Prop) (n : Nat) (fuel : Nat) (listed : Array Bool) (a : Act) (w : World) (rs : List Nat) : Prop :=
  ∀ i ∈ rs, wpOp P ops Q i (fun a' w' => (i < n → S w') ∧ wpAnyS P md ops Q S n fuel (listed.setIfInBounds i true) a' w') a w
theorem AllReadyS.nil {fuel : Nat} {listed : Array Bool} {a : Act} {w : World} : AllReadyS P md ops Q S n fuel listed a w [] := fun _ h => by cases h
theorem AllReadyS.cons {fuel : Nat} {listed : Array Bool} {a : Act} {w : World} {i : Nat} {o : Oper} {rs : List Nat} (ho : ops[i]? = some o)
    (h : ∀ K' : Act → World → Prop, Shut (∀ a w, (i < n → S w) → wpAnyS P md ops Q S n fuel (listed.setIfInBounds i true) a w → K' a w) → if Region.wanted o (yielded ops a.tmps) = true then Oper.wp P o a w K' Q else K' (a.put o.dst undef) w)
    (hs : AllReadyS P md ops Q S n fuel listed a w rs) : AllReadyS P md ops Q S n fuel listed a w (i :: rs) := fun j hj => by
  rcases List.mem_cons.1 hj with rfl | hj
  · exact wpOp_step ho (fun K' hK => h K' (fun a w hS hW => hK a w ⟨hS, hW⟩))
  · exact hs j hj
theorem wpAnyS_ready {rs : List Nat} {fuel : Nat} {listed : Array Bool} {a : Act} {w : World} (hr : Region.ready md ops listed = rs) (hne : rs ≠ [])
    (h : AllReadyS P md ops Q S n fuel listed a w rs) : wpAnyS P md ops Q S n (fuel + 1) listed a w := ⟨fun h0 => absurd (hr ▸ h0) hne, hr ▸ h⟩
theorem wpAnyS_done {Q : Exit → Act → World → Prop} {listed : Array Bool} {a : Act} {w : World} (hr : Region.ready md ops listed = []) (h : Q .normal a w) : ∀ fuel, wpAnyS P md ops (NoPanic Q) S n fuel listed a w
  | 0 => ⟨hr, NoPanic.normal h⟩
  | _ + 1 => ⟨fun _ => NoPanic.normal h, by rw [hr]; simp⟩
theorem NoPanic.any {Q : Exit → Act → World → Prop} : ∀ c (a a' : Act) w, NoPanic Q (.panic c) a w → NoPanic Q (.panic c) a' w := fun _ _ _ _ h => h
end
/-- the region's beginning: n: how many operations the last ones wait for; bs: which of them are taken first; g: how many are left -/
theorem wp_region_mask {P : Program} {id : Nat} {Q : Exit → Act → World → Prop} {a : Act} {w : World} {l : List Oper} (S : World → Prop) (n g : Nat) (bs : List Bool) (done : Array Bool) (hm : P.follows .mixedOrders = true)
    (hB : (Region.noSelect l.toArray && Region.sinkB .any l.toArray n && Region.chainB .any l.toArray n && decide (n < l.length) && decide (bs.length = l.length) && decide (bs.count true + g = l.length) && maskB .any l.toArray n bs 0 (Array.replicate l.length false)) = true) (hd : maskDone bs 0 (Array.replicate l.length false) = done) (hS : S w.drew)
    (h : wpMask P l.toArray S (fun a' => wpAnyS P .any l.toArray (NoPanic Q) S n g done a' w.drew) bs l a) : (Code.region id l.toArray true).wp P Q a w := by
  subst hd
  simp only [Bool.and_eq_true, decide_eq_true_eq] at hB
  obtain ⟨⟨⟨⟨⟨⟨hsel, hs⟩, hc⟩, hn⟩, hlen⟩, hcount⟩, hmask⟩ := hB
  have inv0 : HeadInv .any l.toArray n (Array.replicate l.length false) :=
    ⟨by simp, fun j oj _ hl => (by rw [getD_replicate_false] at hl; cases hl), fun t _ ht => getD_in (by simpa using ht) (getD_replicate_false _ _)⟩
  refine wp_region_noPanic (wp_region_any hm ?_)
  have := wpAnyS_mask (Q := NoPanic Q) hsel NoPanic.any hs hc (by simpa using hn) hS bs l 0 _ a hlen (fun j hj => by simp) inv0 hmask h
  rw [hcount] at this
  simpa using wpAny_of_S _ _ _ _ this
theorem wpMask_take {P : Program} {ops : Array Oper} {S : World → Prop} {R : Act → Prop} {bs : List Bool} {o : Oper} {l : List Oper} {a : Act} (v : Value) (hy : YieldsIf P ops S o v a) (h : wpMask P ops S R bs l (a.put o.dst v)) : wpMask P ops S R (true :: bs) (o :: l) a := ⟨v, hy, h⟩
theorem wpMask_skip {P : Program} {ops : Array Oper} {S : World → Prop} {R : Act → Prop} {bs : List Bool} {o : Oper} {l : List Oper} {a : Act} (h : wpMask P ops S R bs l a) : wpMask P ops S R (false :: bs) (o :: l) a := h
theorem wpMask_nil {P : Program} {ops : Array Oper} {S : World → Prop} {R : Act → Prop} {a : Act} (h : R a) : wpMask P ops S R [] [] a := h
end Go.Proofs.YtgjlcjbmcnofiaaDoor
