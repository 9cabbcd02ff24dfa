/-
  A region that draws its order, whose last operations wait for all the others: what only reads may be taken first under a condition on the world that need not hold behind the last operations.
  Conditions: none; no program is named.
-/
import Derived.Test.YtogagkgkmoppmaaBaseT
import Derived.Deep.RegionHeld3
import Derived.WalkKit
namespace Go.Proofs.Ytogagkgkmoppmaa
set_option linter.unusedVariables false
open Go.RowKit
section
variable {P : Program} {ops : Array Oper} {Q : Exit → Act → World → Prop} {md : Region.Mode} {S : World → Prop} {n : Nat}
/-- whatever order is picked from here on, and S holds behind each of the first n operations -/
def wpAnyS (P : Program) (md : Region.Mode) (ops : Array Oper) (Q : Exit → Act → World → Prop) (S : World → Prop) (n : Nat) : Nat → Array Bool → Act → World → Prop
  | 0, listed, a, w => Region.ready md ops listed = [] ∧ Q .normal a w
  | fuel + 1, listed, a, w =>
    (Region.ready md ops listed = [] → Q .normal a w) ∧
    ∀ i ∈ Region.ready md ops listed, wpOp P ops Q i (fun a' w' => (i < n → S w') ∧ wpAnyS P md ops Q S n fuel (listed.setIfInBounds i true) a' w') a w
theorem wpAny_of_S : ∀ (fuel : Nat) (listed : Array Bool) (a : Act) (w : World), wpAnyS P md ops Q S n fuel listed a w → wpAny P md ops Q fuel listed a w
  | 0, _, _, _, h => h
  | fuel + 1, _, _, _, h => ⟨h.1, fun i hi => wpOp_mono (fun a' w' h' => wpAny_of_S fuel _ a' w' h'.2) (h.2 i hi)⟩
theorem wpAnyS_first {i : Nat} {oi : Oper} {v : Value} (hi : ops[i]? = some oi) (hsel : ∀ (j : Nat) (o : Oper) cs b, ops[j]? = some o → o.op ≠ .select cs b)
    (hQ : ∀ c a w, Q (.panic c) (a.put oi.dst v) w → Q (.panic c) a w) (hs : Region.sinkB md ops n = true) (hc : Region.chainB md ops n = true) (hn : n < ops.size) (hin : i < n) :
    ∀ (fuel : Nat) (listed : Array Bool) (a : Act) (w : World), HeadInv md ops n listed →
      (∀ j oj, ops[j]? = some oj → j ≠ i → listed.getD j true = false → (∀ e ∈ oj.after, Region.binds md e = true → e.on ≠ i) → oi.apart ops oj = true) →
      i ∈ Region.ready md ops listed → YieldsIf P ops S oi v a → S w →
      wpAnyS P md ops Q S n fuel (listed.setIfInBounds i true) (a.put oi.dst v) w → wpAnyS P md ops Q S n (fuel + 1) listed a w := by
  intro fuel
  induction fuel with
  | zero =>
    intro listed a w inv _ hr hy hS H
    refine ⟨fun h => (by rw [h] at hr; cases hr), fun j hj => ?_⟩
    by_cases hji : j = i
    · subst hji; exact hy.wpOp hi hS ⟨fun _ => hS, H⟩
    · have := ready_mono hj hji
      rw [H.1] at this
      cases this
  | succ fuel ih =>
    intro listed a w inv hfree hr hy hS H
    refine ⟨fun h => (by rw [h] at hr; cases hr), fun j hj => ?_⟩
    have hjn : j < n := Nat.lt_of_not_le fun hge => tail_waits hs hc hn inv _ i rfl hin (mem_ready.1 hr).1 j hge hj
    by_cases hji : j = i
    · subst hji; exact hy.wpOp hi hS ⟨fun _ => hS, H⟩
    · have h1 := H.2 j (ready_mono hj hji)
      obtain ⟨hjun, oj, hoj, hall⟩ := mem_ready.1 hj
      have hnot : ∀ e ∈ oj.after, Region.binds md e = true → e.on ≠ i := fun e he hb heq => by
        have h1 := hall e he hb
        rw [heq, getD_both (mem_ready.1 hr).1] at h1
        cases h1
      have h2 := wpOp_putIf hoj (hfree j oj hoj hji hjun hnot) (fun cs b => hsel i oi cs b hi) (fun cs b => hsel j oj cs b hoj) hQ hy h1
      have hfree' : ∀ k ok, ops[k]? = some ok → k ≠ i → (listed.setIfInBounds j true).getD k true = false →
          (∀ e ∈ ok.after, Region.binds md e = true → e.on ≠ i) → oi.apart ops ok = true := fun k ok hk hki hun hno => by
        refine hfree k ok hk hki ?_ hno
        by_cases hjk : j = k
        · subst hjk; exact hjun
        · rw [getD_set_ne true hjk] at hun; exact hun
      refine wpOp_mono (fun a' w' h3 => ⟨h3.2.1, ih (listed.setIfInBounds j true) a' w' (inv.set hj hjn) hfree' (ready_mono hr (Ne.symm hji)) h3.1 (h3.2.1 hjn) ?_⟩) h2
      rw [Array.setIfInBounds_comm _ _ hji]
      exact h3.2.2
/-- the operations that the mask marks, in the region's own order, each reading under S -/
def wpMask (P : Program) (ops : Array Oper) (S : World → Prop) (R : Act → Prop) : List Bool → List Oper → Act → Prop
  | true :: bs, o :: l, a => ∃ v, YieldsIf P ops S o v a ∧ wpMask P ops S R bs l (a.put o.dst v)
  | false :: bs, _ :: l, a => wpMask P ops S R bs l a
  | _, _, a => R a
def maskB (md : Region.Mode) (ops : Array Oper) (n : Nat) : List Bool → Nat → Array Bool → Bool
  | true :: bs, k, done => (Region.ready md ops done).contains k && Region.free md ops done k && decide (k < n) && maskB md ops n bs (k + 1) (done.setIfInBounds k true)
  | false :: bs, k, done => maskB md ops n bs (k + 1) done
  | [], _, _ => true
def maskDone : List Bool → Nat → Array Bool → Array Bool
  | true :: bs, k, done => maskDone bs (k + 1) (done.setIfInBounds k true)
  | false :: bs, k, done => maskDone bs (k + 1) done
  | [], _, done => done
theorem wpAnyS_mask {g : Nat} (hsel : Region.noSelect ops = true) (hQ : ∀ c a a' w, Q (.panic c) a w → Q (.panic c) a' w) (hs : Region.sinkB md ops n = true) (hc : Region.chainB md ops n = true) (hn : n < ops.size) {w : World} (hS : S w) :
    ∀ (bs : List Bool) (l : List Oper) (k : Nat) (done : Array Bool) (a : Act), bs.length = l.length → (∀ j, j < l.length → l[j]? = ops[k + j]?) → HeadInv md ops n done → maskB md ops n bs k done = true →
    wpMask P ops S (fun a' => wpAnyS P md ops Q S n g (maskDone bs k done) a' w) bs l a → wpAnyS P md ops Q S n (bs.count true + g) done a w
  | [], l, k, done, a, hlen, _, _, _, h => by
    simp only [List.count_nil, Nat.zero_add]
    cases l <;> simpa [wpMask, maskDone] using h
  | b :: bs, [], k, done, a, hlen, _, _, _, h => by simp at hlen
  | false :: bs, o :: l, k, done, a, hlen, hl, inv, hB, h => by
    rw [show (false :: bs).count true = bs.count true by simp]
    refine wpAnyS_mask hsel hQ hs hc hn hS bs l (k + 1) done a (by simpa using hlen) (fun j hj => ?_) inv (by simpa [maskB] using hB) h
    have := hl (j + 1) (by simp; omega)
    simpa [Nat.add_assoc, Nat.add_comm 1 j] using this
  | true :: bs, o :: l, k, done, a, hlen, hl, inv, hB, h => by
    have h0 : ops[k]? = some o := by simpa using (hl 0 (by simp)).symm
    simp only [maskB, Bool.and_eq_true, decide_eq_true_eq] at hB
    obtain ⟨⟨⟨hr, hf⟩, hkn⟩, hB'⟩ := hB
    have hr' : k ∈ Region.ready md ops done := by simpa using hr
    obtain ⟨v, hy, hK⟩ := h
    rw [show (true :: bs).count true + g = (bs.count true + g) + 1 by simp; omega]
    refine wpAnyS_first h0 (Region.noSelect_spec hsel) (fun c a w => hQ c _ _ w) hs hc hn hkn _ done a w inv (Region.free_spec h0 hf) hr' hy hS ?_
    refine wpAnyS_mask hsel hQ hs hc hn hS bs l (k + 1) _ _ (by simpa using hlen) (fun j hj => ?_) (inv.set hr' hkn) hB' hK
    have := hl (j + 1) (by simp; omega)
    simpa [Nat.add_assoc, Nat.add_comm 1 j] using this
def AllReadyS (P : Program) (md : Region.Mode) (ops : Array Oper) (Q : Exit → Act → World → Prop) (S : World → Prop) (n : Nat) (fuel : Nat) (listed : Array Bool) (a : Act) (w : World) (rs : List Nat) : Prop :=
  ∀ i ∈ rs, wpOp P ops Q i (fun a' w' => (i < n → S w') ∧ wpAnyS P md ops Q S n fuel (listed.setIfInBounds i true) a' w') a w
theorem AllReadyS.nil {fuel : Nat} {listed : Array Bool} {a : Act} {w : World} : AllReadyS P md ops Q S n fuel listed a w [] := fun _ h => by cases h
theorem AllReadyS.cons {fuel : Nat} {listed : Array Bool} {a : Act} {w : World} {i : Nat} {o : Oper} {rs : List Nat} (ho : ops[i]? = some o)
    (h : ∀ K' : Act → World → Prop, Shut (∀ a w, (i < n → S w) → wpAnyS P md ops Q S n fuel (listed.setIfInBounds i true) a w → K' a w) → if Region.wanted o (yielded ops a.tmps) = true then Oper.wp P o a w K' Q else K' (a.put o.dst undef) w)
    (hs : AllReadyS P md ops Q S n fuel listed a w rs) : AllReadyS P md ops Q S n fuel listed a w (i :: rs) := fun j hj => by
  rcases List.mem_cons.1 hj with rfl | hj
  · exact wpOp_step ho (fun K' hK => h K' (fun a w hS hW => hK a w ⟨hS, hW⟩))
  · exact hs j hj
theorem wpAnyS_ready {rs : List Nat} {fuel : Nat} {listed : Array Bool} {a : Act} {w : World} (hr : Region.ready md ops listed = rs) (hne : rs ≠ [])
    (h : AllReadyS P md ops Q S n fuel listed a w rs) : wpAnyS P md ops Q S n (fuel + 1) listed a w := ⟨fun h0 => absurd (hr ▸ h0) hne, hr ▸ h⟩
theorem wpAnyS_done {Q : Exit → Act → World → Prop} {listed : Array Bool} {a : Act} {w : World} (hr : Region.ready md ops listed = []) (h : Q .normal a w) : ∀ fuel, wpAnyS P md ops (NoPanic Q) S n fuel listed a w
  | 0 => ⟨hr, NoPanic.normal h⟩
  | _ + 1 => ⟨fun _ => NoPanic.normal h, by rw [hr]; simp⟩
theorem NoPanic.any {Q : Exit → Act → World → Prop} : ∀ c (a a' : Act) w, NoPanic Q (.panic c) a w → NoPanic Q (.panic c) a' w := fun _ _ _ _ h => h
end
/-- the region's beginning: n: how many operations the last ones wait for; bs: which of them are taken first; g: how many are left -/
theorem wp_region_mask {P : Program} {id : Nat} {Q : Exit → Act → World → Prop} {a : Act} {w : World} {l : List Oper} (S : World → Prop) (n g : Nat) (bs : List Bool) (done : Array Bool) (hm : P.follows .mixedOrders = true)
    (hB : (Region.noSelect l.toArray && Region.sinkB .any l.toArray n && Region.chainB .any l.toArray n && decide (n < l.length) && decide (bs.length = l.length) && decide (bs.count true + g = l.length) && maskB .any l.toArray n bs 0 (Array.replicate l.length false)) = true) (hd : maskDone bs 0 (Array.replicate l.length false) = done) (hS : S w.drew)
    (h : wpMask P l.toArray S (fun a' => wpAnyS P .any l.toArray (NoPanic Q) S n g done a' w.drew) bs l a) : (Code.region id l.toArray true).wp P Q a w := by
  subst hd
  simp only [Bool.and_eq_true, decide_eq_true_eq] at hB
  obtain ⟨⟨⟨⟨⟨⟨hsel, hs⟩, hc⟩, hn⟩, hlen⟩, hcount⟩, hmask⟩ := hB
  have inv0 : HeadInv .any l.toArray n (Array.replicate l.length false) :=
    ⟨by simp, fun j oj _ hl => (by rw [getD_replicate_false] at hl; cases hl), fun t _ ht => getD_in (by simpa using ht) (getD_replicate_false _ _)⟩
  refine wp_region_noPanic (wp_region_any hm ?_)
  have := wpAnyS_mask (Q := NoPanic Q) hsel NoPanic.any hs hc (by simpa using hn) hS bs l 0 _ a hlen (fun j hj => by simp) inv0 hmask h
  rw [hcount] at this
  simpa using wpAny_of_S _ _ _ _ this
theorem wpMask_take {P : Program} {ops : Array Oper} {S : World → Prop} {R : Act → Prop} {bs : List Bool} {o : Oper} {l : List Oper} {a : Act} (v : Value) (hy : YieldsIf P ops S o v a) (h : wpMask P ops S R bs l (a.put o.dst v)) : wpMask P ops S R (true :: bs) (o :: l) a := ⟨v, hy, h⟩
theorem wpMask_skip {P : Program} {ops : Array Oper} {S : World → Prop} {R : Act → Prop} {bs : List Bool} {o : Oper} {l : List Oper} {a : Act} (h : wpMask P ops S R bs l a) : wpMask P ops S R (false :: bs) (o :: l) a := h
theorem wpMask_nil {P : Program} {ops : Array Oper} {S : World → Prop} {R : Act → Prop} {a : Act} (h : R a) : wpMask P ops S R [] [] a := h
end Go.Proofs.Ytogagkgkmoppmaa
namespace Go.Proofs.Ytogagkgkmoppmaa
set_option linter.unusedVariables false
open Go.RowKit
theorem fold_set (l : List Value) : ∀ (k : Nat) (z : Array Value) (j : Nat), ((l.zipIdx k).foldl (fun (a : Array Value) (p : Value × Nat) => a.setIfInBounds p.2 p.1) z)[j]? = if k ≤ j ∧ j < k + l.length ∧ j < z.size then l[j - k]? else z[j]? := by
  induction l with
  | nil =>
    intro k z j
    rw [if_neg (by simp; omega)]
    rfl
  | cons x l ih =>
    intro k z j
    rw [List.zipIdx_cons, List.foldl_cons, ih (k + 1)]
    simp only [Array.size_setIfInBounds, List.length_cons]
    by_cases h1 : j = k
    · subst h1
      rw [if_neg (by omega)]
      by_cases h2 : j < z.size
      · rw [if_pos ⟨by omega, by omega, h2⟩]
        simp [h2]
      · rw [if_neg (by omega)]
        simp [h2]
    · by_cases h2 : k + 1 ≤ j ∧ j < k + 1 + l.length ∧ j < z.size
      · rw [if_pos h2, if_pos ⟨by omega, by omega, h2.2.2⟩, show j - k = (j - (k + 1)) + 1 by omega, List.getElem?_cons_succ]
      · rw [if_neg h2, if_neg (by omega)]
        rw [Array.getElem?_setIfInBounds_ne (by omega)]
theorem fill_one (cs z : Array Value) (hz : z.size = cs.size) : Instr.fill (fun i => some (i * cs.size, cs.size)) z [(0, .agg cs)] = some cs := by
  have h0 : cs.zipIdx.foldl (fun (a : Array Value) (p : Value × Nat) => a.setIfInBounds (0 * cs.size + p.2) p.1) z = cs := by
    simp only [Nat.zero_mul, Nat.zero_add]
    have e : cs.zipIdx.foldl (fun (a : Array Value) (p : Value × Nat) => a.setIfInBounds p.2 p.1) z = (cs.toList.zipIdx 0).foldl (fun (a : Array Value) (p : Value × Nat) => a.setIfInBounds p.2 p.1) z := by
      rw [← Array.foldl_toList, Array.toList_zipIdx]
    rw [e]
    apply Array.ext_getElem?
    intro j
    rw [fold_set]
    split
    · rename_i h
      simp
    · rename_i h
      simp at h
      rw [Array.getElem?_eq_none (by omega), Array.getElem?_eq_none (by omega)]
  refine (if_neg (by simp [Value.cells, hz])).trans ?_
  exact congrArg some h0
theorem wp_buildSlice_row {P : Program} {o : Oper} {a : Act} {w : World} {K : Act → World → Prop} {Q : Exit → Act → World → Prop} (t : TypeId) (x : Operand) (ho : o.op = .buildSlice t 1 #[(0, x)])
    (e : TypeId) (i : TypeInfo) (z : Value) (ht : P.underlying t = some (.slice e)) (hi : P.info? e = some i) (hz : i.zero = some z) (cs : Array Value) (hx : a.eval x = .agg cs) (hsize : i.size = cs.size)
    (h0 : 0 < cs.size) (hc : cs.size ≤ 16777216)
    (h : K (a.put o.dst (.slice (some ⟨w.heap.size, 0, none⟩) 1 1)) (w.alloc (.cells cs e))) : Oper.wp P o a w K Q := by
  unfold Oper.wp execOp
  have hlen : ¬ 1 * cs.size > 2 ^ 24 := by omega
  have hne : ¬ 1 * cs.size = 0 := by omega
  have hf := fill_one cs ((Array.range (1 * cs.size)).map (z.cells[· % z.cells.size]!)) (by simp)
  have hne2 : cs ≠ #[] := by intro e; rw [e] at h0; simp at h0
  rw [Nat.one_mul] at hf
  have hr : (Instr.buildSlice t 1 #[(0, .agg cs)]).run P w = .ok (.slice (some ⟨w.heap.size, 0, none⟩) 1 1) (w.alloc (.cells cs e)) := by
    simp [Instr.buildSlice, run_underlying ht, sizeOf, typeInfo, zeroValue, hi, hz, hsize, newRow]
    rw [if_neg (by omega), if_neg hne2, hf]
    simp
  have hp : (#[(0, x)] : Array (Nat × Operand)).map (fun p => (p.1, a.eval p.2)) = #[(0, .agg cs)] := by simp [hx]
  simp only [ho]
  rw [hp]
  simp only [Sem.run_bind, hr, Result.andThen_ok, Sem.run_pure]
  exact h
theorem step_buildSlice_row {P : Program} {ops : Array Oper} {o : Oper} {a : Act} {w : World} {K : Act → World → Prop} {Q : Exit → Act → World → Prop} {E : Prop} (hgd : o.guard = none) (t : TypeId) (x : Operand) (ho : o.op = .buildSlice t 1 #[(0, x)])
    (e : TypeId) (i : TypeInfo) (z : Value) (ht : P.underlying t = some (.slice e)) (hi : P.info? e = some i) (hz : i.zero = some z) (cs : Array Value) (hx : a.eval x = .agg cs) (hsize : i.size = cs.size)
    (h0 : 0 < cs.size) (hc : cs.size ≤ 16777216)
    (h : K (a.put o.dst (.slice (some ⟨w.heap.size, 0, none⟩) 1 1)) (w.alloc (.cells cs e))) : if Region.wanted o (yielded ops a.tmps) = true then Oper.wp P o a w K Q else E := by
  have hw : Region.wanted o (yielded ops a.tmps) = true := by simp [Region.wanted, hgd]
  rw [if_pos hw]
  exact wp_buildSlice_row t x ho e i z ht hi hz cs hx hsize h0 hc h
theorem grownB {n : Nat} {w0 w w' : World} {row : Option Nat} (hb : Below n w0 w) (hn : n ≤ w.heap.size) (hg : w.grownBy w' row) (hr : ∀ b, row = some b → n ≤ b) : Below n w0 w' :=
  (show Kept (fun k => ∃ b, row = some b ∧ k = b) w w' from ⟨hg.os, hg.tape, hg.output, hg.size, fun i hi hs => hg.block i hi (fun e => hs ⟨i, e.symm, rfl⟩)⟩).out hb hn (by rintro k hk ⟨b, hb, e⟩; have := hr b hb; omega)
theorem ownOne (w : World) (base : Nat) (e : TypeId) (X : Array Value) (size : Nat) (hs : X.size = size) (h : base ≤ w.heap.size) : (w.alloc (.cells X e)).ownsRow base e size (.slice (some ⟨w.heap.size, 0, none⟩) 1 1) 1 X.toList := by
  subst hs
  exact ⟨by simp, .inr ⟨w.heap.size, 1, X, rfl, h, heap_alloc_new w _, Nat.le_refl _, by unfold maxLen; omega, by simp, List.take_of_length_le (by simp)⟩⟩
theorem ownNil (w : World) (base : Nat) (e : TypeId) (size : Nat) (h : base ≤ w.heap.size) : (w.alloc (.cells #[] e)).ownsRow base e size (.slice (some ⟨w.heap.size, 0, none⟩) 0 0) 0 [] :=
  World.ownsRow_made w #[] 0 h (by decide) (by simp)
theorem ownMore {w : World} {base b : Nat} {e : TypeId} {size : Nat} {v : Value} {n : Nat} {xs : List Value} (h : w.ownsRow b e size v n xs) (hb : base ≤ b) : w.ownsRow base e size v n xs :=
  ⟨h.1, h.2.imp id fun ⟨g, cap, cur, h1, h2, h3⟩ => ⟨g, cap, cur, h1, Nat.le_trans hb h2, h3⟩⟩
theorem ownKept {w w' : World} {Z : Nat → Prop} {base : Nat} {e : TypeId} {size n : Nat} {v : Value} {xs : List Value} (h : w.ownsRow base e size v n xs) (hk : Kept Z w w') (hz : ∀ b, v.ownBlock = some b → ¬ Z b) : w'.ownsRow base e size v n xs := by
  refine ⟨h.1, h.2.imp id ?_⟩
  rintro ⟨g, cap, cur, rfl, h2, h3, h4⟩
  exact ⟨g, cap, cur, rfl, h2, (hk.block g (Array.getElem?_eq_some_iff.1 h3).1 (hz g rfl)).trans h3, h4⟩
theorem ownForm {w : World} {b : Nat} {e : TypeId} {size : Nat} {v : Value} {n : Nat} {xs : List Value} (h : w.ownsRow b e size v n xs) : ∃ ad cap, v = .slice ad n cap := by
  rcases h.2 with ⟨rfl, rfl⟩ | ⟨g, cap, _, rfl, _⟩
  · exact ⟨_, _, rfl⟩
  · exact ⟨_, _, rfl⟩
end Go.Proofs.Ytogagkgkmoppmaa
namespace Go.Proofs.Ytogagkgkmoppmaa
set_option linter.unusedVariables false
open Go.RowKit
section
variable {P : Program} {ops : Array Oper} {Q : Exit → Act → World → Prop} {md : Region.Mode} {S : World → Prop} {n : Nat}
def headInvB (md : Region.Mode) (ops : Array Oper) (n : Nat) (listed : Array Bool) : Bool :=
  listed.size == ops.size && ((List.range ops.size).all fun j => !listed.getD j false || (match ops[j]? with | some oj => oj.after.all fun e => !Region.binds md e || listed.getD e.on false | none => true)) && ((List.range ops.size).all fun t => decide (t < n) || !listed.getD t true)
theorem headInvB_spec {listed : Array Bool} (h : headInvB md ops n listed = true) : HeadInv md ops n listed := by
  unfold headInvB at h
  simp only [Bool.and_eq_true, beq_iff_eq] at h
  obtain ⟨⟨h1, h2⟩, h3⟩ := h
  refine ⟨h1, fun j oj hj hl e he hb => ?_, fun t ht hlt => ?_⟩
  · have hjs : j < ops.size := (Array.getElem?_eq_some_iff.1 hj).1
    have := List.all_eq_true.1 h2 j (List.mem_range.2 hjs)
    rw [hl, hj] at this
    simp only [Bool.not_true, Bool.false_or] at this
    have := Array.all_eq_true'.1 this e he
    rw [hb] at this
    simpa using this
  · have := List.all_eq_true.1 h3 t (List.mem_range.2 hlt)
    simp only [Bool.or_eq_true, decide_eq_true_eq, Bool.not_eq_true'] at this
    rcases this with h | h
    · omega
    · exact h
theorem wpAnyS_take {i : Nat} {oi : Oper} (v : Value) {fuel : Nat} {listed : Array Bool} {a : Act} {w : World} (hi : ops[i]? = some oi)
    (hB : (Region.noSelect ops && Region.sinkB md ops n && Region.chainB md ops n && decide (n < ops.size) && decide (i < n) && headInvB md ops n listed && (Region.ready md ops listed).contains i && Region.free md ops listed i) = true)
    (hy : YieldsIf P ops S oi v a) (hS : S w)
    (h : wpAnyS P md ops (NoPanic Q) S n fuel (listed.setIfInBounds i true) (a.put oi.dst v) w) : wpAnyS P md ops (NoPanic Q) S n (fuel + 1) listed a w := by
  simp only [Bool.and_eq_true, decide_eq_true_eq] at hB
  obtain ⟨⟨⟨⟨⟨⟨⟨hsel, hs⟩, hc⟩, hn⟩, hin⟩, hinv⟩, hr⟩, hf⟩ := hB
  exact wpAnyS_first hi (Region.noSelect_spec hsel) (fun _ _ _ h => h) hs hc hn hin fuel listed a w (headInvB_spec hinv) (Region.free_spec hi hf) (by simpa using hr) hy hS h
end
end Go.Proofs.Ytogagkgkmoppmaa
