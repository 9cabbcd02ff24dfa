/-
  A slice of one struct, built of the struct as one value.
  Conditions: none; no program is named.
-/
import Derived.Test.YtgjlcjbmcnofiaaDoorMask
import Derived.WalkKit
import Derived.Test.YtgjlcjbmcnofiaaDoorKept
import Derived.Test.YtgjlcjbmcnofiaaDoorWords
namespace Go.Proofs.YtgjlcjbmcnofiaaDoor
set_option linter.unusedVariables false
open Go.RowKit
theorem fold_set (l : List Value) : ∀ (k : Nat) (z : Array Value) (j : Nat), ((l.zipIdx k).foldl (fun (a : Array Value) (p : Value × Nat) => a.setIfInBounds p.2 p.1) z)[j]? = if k ≤ j ∧ j < k + l.length ∧ j < z.size then l[j - k]? else z[j]? := by
  induction l with
  | nil =>
    intro k z j
    rw [if_neg (by simp; omega)]
    rfl
  | cons x l ih =>
    intro k z j
    rw [List.zipIdx_cons, List.foldl_cons, ih (k + 1)]
    simp only [Array.size_setIfInBounds, List.length_cons]
    by_cases h1 : j = k
    · subst h1
      rw [if_neg (by omega)]
      by_cases h2 : j < z.size
      · rw [if_pos ⟨by omega, by omega, h2⟩]
        simp [h2]
      · rw [if_neg (by omega)]
        simp [h2]
    · by_cases h2 : k + 1 ≤ j ∧ j < k + 1 + l.length ∧ j < z.size
      · rw [if_pos h2, if_pos ⟨by omega, by omega, h2.2.2⟩, show j - k = (j - (k + 1)) + 1 by omega, List.getElem?_cons_succ]
      · rw [if_neg h2, if_neg (by omega)]
        rw [Array.getElem?_setIfInBounds_ne (by omega)]
theorem fill_one (cs z : Array Value) (hz : z.size = cs.size) : Instr.fill (fun i => some (i * cs.size, cs.size)) z [(0, .agg cs)] = some cs := by
  have h0 : cs.zipIdx.foldl (fun (a : Array Value) (p : Value × Nat) => a.setIfInBounds (0 * cs.size + p.2) p.1) z = cs := by
    simp only [Nat.zero_mul, Nat.zero_add]
    have e : cs.zipIdx.foldl (fun (a : Array Value) (p : Value × Nat) => a.setIfInBounds p.2 p.1) z = (cs.toList.zipIdx 0).foldl (fun (a : Array Value) (p : Value × Nat) => a.setIfInBounds p.2 p.1) z := by
      rw [← Array.foldl_toList, Array.toList_zipIdx]
    rw [e]
    apply Array.ext_getElem?
    intro j
    rw [fold_set]
    split
    · rename_i h
      simp
    · rename_i h
      simp at h
      rw [Array.getElem?_eq_none (by omega), Array.getElem?_eq_none (by omega)]
  refine (if_neg (by simp [Value.cells, hz])).trans ?_
  exact congrArg some h0
theorem wp_buildSlice_row {P : Program} {o : Oper} {a : Act} {w : World} {K : Act → World → Prop} {Q : Exit → Act → World → Prop} (t : TypeId) (x : Operand) (ho : o.op = .buildSlice t 1 #[(0, x)])
    (e : TypeId) (i : TypeInfo) (z : Value) (ht : P.underlying t = some (.slice e)) (hi : P.info? e = some i) (hz : i.zero = some z) (cs : Array Value) (hx : a.eval x = .agg cs) (hsize : i.size = cs.size)
    (h0 : 0 < cs.size) (hc : cs.size ≤ 16777216)
    (h : K (a.put o.dst (.slice (some ⟨w.heap.size, 0, none⟩) 1 1)) (w.alloc (.cells cs e))) : Oper.wp P o a w K Q := by
  unfold Oper.wp execOp
  have hlen : ¬ 1 * cs.size > 2 ^ 24 := by omega
  have hne : ¬ 1 * cs.size = 0 := by omega
  have hf := fill_one cs ((Array.range (1 * cs.size)).map (z.cells[· % z.cells.size]!)) (by simp)
  have hne2 : cs ≠ #[] := by intro e; rw [e] at h0; simp at h0
  rw [Nat.one_mul] at hf
  have hr : (Instr.buildSlice t 1 #[(0, .agg cs)]).run P w = .ok (.slice (some ⟨w.heap.size, 0, none⟩) 1 1) (w.alloc (.cells cs e)) := by
    simp [Instr.buildSlice, run_underlying ht, sizeOf, typeInfo, zeroValue, hi, hz, hsize, newRow]
    rw [if_neg (by omega), if_neg hne2, hf]
    simp
  have hp : (#[(0, x)] : Array (Nat × Operand)).map (fun p => (p.1, a.eval p.2)) = #[(0, .agg cs)] := by simp [hx]
  simp only [ho]
  rw [hp]
  simp only [Sem.run_bind, hr, Result.andThen_ok, Sem.run_pure]
  exact h
theorem step_buildSlice_row {P : Program} {ops : Array Oper} {o : Oper} {a : Act} {w : World} {K : Act → World → Prop} {Q : Exit → Act → World → Prop} {E : Prop} (hgd : o.guard = none) (t : TypeId) (x : Operand) (ho : o.op = .buildSlice t 1 #[(0, x)])
    (e : TypeId) (i : TypeInfo) (z : Value) (ht : P.underlying t = some (.slice e)) (hi : P.info? e = some i) (hz : i.zero = some z) (cs : Array Value) (hx : a.eval x = .agg cs) (hsize : i.size = cs.size)
    (h0 : 0 < cs.size) (hc : cs.size ≤ 16777216)
    (h : K (a.put o.dst (.slice (some ⟨w.heap.size, 0, none⟩) 1 1)) (w.alloc (.cells cs e))) : if Region.wanted o (yielded ops a.tmps) = true then Oper.wp P o a w K Q else E := by
  have hw : Region.wanted o (yielded ops a.tmps) = true := by simp [Region.wanted, hgd]
  rw [if_pos hw]
  exact wp_buildSlice_row t x ho e i z ht hi hz cs hx hsize h0 hc h
theorem grownB {n : Nat} {w0 w w' : World} {row : Option Nat} (hb : Below n w0 w) (hn : n ≤ w.heap.size) (hg : w.grownBy w' row) (hr : ∀ b, row = some b → n ≤ b) : Below n w0 w' :=
  (show Kept (fun k => ∃ b, row = some b ∧ k = b) w w' from ⟨hg.os, hg.tape, hg.output, hg.size, fun i hi hs => hg.block i hi (fun e => hs ⟨i, e.symm, rfl⟩)⟩).out hb hn (by rintro k hk ⟨b, hb, e⟩; have := hr b hb; omega)
theorem ownOne (w : World) (base : Nat) (e : TypeId) (X : Array Value) (size : Nat) (hs : X.size = size) (h : base ≤ w.heap.size) : (w.alloc (.cells X e)).ownsRow base e size (.slice (some ⟨w.heap.size, 0, none⟩) 1 1) 1 X.toList := by
  subst hs
  exact ⟨by simp, .inr ⟨w.heap.size, 1, X, rfl, h, heap_alloc_new w _, Nat.le_refl _, by unfold maxLen; omega, by simp, List.take_of_length_le (by simp)⟩⟩
theorem ownNil (w : World) (base : Nat) (e : TypeId) (size : Nat) (h : base ≤ w.heap.size) : (w.alloc (.cells #[] e)).ownsRow base e size (.slice (some ⟨w.heap.size, 0, none⟩) 0 0) 0 [] :=
  World.ownsRow_made w #[] 0 h (by decide) (by simp)
theorem ownMore {w : World} {base b : Nat} {e : TypeId} {size : Nat} {v : Value} {n : Nat} {xs : List Value} (h : w.ownsRow b e size v n xs) (hb : base ≤ b) : w.ownsRow base e size v n xs :=
  ⟨h.1, h.2.imp id fun ⟨g, cap, cur, h1, h2, h3⟩ => ⟨g, cap, cur, h1, Nat.le_trans hb h2, h3⟩⟩
theorem ownKept {w w' : World} {Z : Nat → Prop} {base : Nat} {e : TypeId} {size n : Nat} {v : Value} {xs : List Value} (h : w.ownsRow base e size v n xs) (hk : Kept Z w w') (hz : ∀ b, v.ownBlock = some b → ¬ Z b) : w'.ownsRow base e size v n xs := by
  refine ⟨h.1, h.2.imp id ?_⟩
  rintro ⟨g, cap, cur, rfl, h2, h3, h4⟩
  exact ⟨g, cap, cur, rfl, h2, (hk.block g (Array.getElem?_eq_some_iff.1 h3).1 (hz g rfl)).trans h3, h4⟩
theorem ownForm {w : World} {b : Nat} {e : TypeId} {size : Nat} {v : Value} {n : Nat} {xs : List Value} (h : w.ownsRow b e size v n xs) : ∃ ad cap, v = .slice ad n cap := by
  rcases h.2 with ⟨rfl, rfl⟩ | ⟨g, cap, _, rfl, _⟩
  · exact ⟨_, _, rfl⟩
  · exact ⟨_, _, rfl⟩
end Go.Proofs.YtgjlcjbmcnofiaaDoor
