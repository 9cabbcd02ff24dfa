/-
  Within such a region: one more operation that only reads, taken first.
  Conditions: none; no program is named.
-/
import Derived.Test.YtgjlcjbmcnofiaaDoorMask
namespace Go.Proofs.YtgjlcjbmcnofiaaDoor
set_option linter.unusedVariables false
open Go.RowKit
section
variable {P : Program} {ops : Array Oper} {Q : Exit → Act → World → Prop} {md : Region.Mode} {S : World → Prop} {n : Nat}
def headInvB (md : Region.Mode) (ops : Array Oper) (n : Nat) (listed : Array Bool) : Bool :=
  listed.size == ops.size && ((List.range ops.size).all fun j => !listed.getD j false || (match ops[j]? with | some oj => oj.after.all fun e => !Region.binds md e || listed.getD e.on false | none => true)) && ((List.range ops.size).all fun t => decide (t < n) || !listed.getD t true)
theorem headInvB_spec {listed : Array Bool} (h : headInvB md ops n listed = true) : HeadInv md ops n listed := by
  unfold headInvB at h
  simp only [Bool.and_eq_true, beq_iff_eq] at h
  obtain ⟨⟨h1, h2⟩, h3⟩ := h
  refine ⟨h1, fun j oj hj hl e he hb => ?_, fun t ht hlt => ?_⟩
  · have hjs : j < ops.size := (Array.getElem?_eq_some_iff.1 hj).1
    have := List.all_eq_true.1 h2 j (List.mem_range.2 hjs)
    rw [hl, hj] at this
    simp only [Bool.not_true, Bool.false_or] at this
    have := Array.all_eq_true'.1 this e he
    rw [hb] at this
    simpa using this
  · have := List.all_eq_true.1 h3 t (List.mem_range.2 hlt)
    simp only [Bool.or_eq_true, decide_eq_true_eq, Bool.not_eq_true'] at this
    rcases this with h | h
    · omega
    · exact h
theorem wpAnyS_take {i : Nat} {oi : Oper} (v : Value) {fuel : Nat} {listed : Array Bool} {a : Act} {w : World} (hi : ops[i]? = some oi)
    (hB : (Region.noSelect ops && Region.sinkB md ops n && Region.chainB md ops n && decide (n < ops.size) && decide (i < n) && headInvB md ops n listed && (Region.ready md ops listed).contains i && Region.free md ops listed i) = true)
    (hy : YieldsIf P ops S oi v a) (hS : S w)
    (h : wpAnyS P md ops (NoPanic Q) S n fuel (listed.setIfInBounds i true) (a.put oi.dst v) w) : wpAnyS P md ops (NoPanic Q) S n (fuel + 1) listed a w := by
  simp only [Bool.and_eq_true, decide_eq_true_eq] at hB
  obtain ⟨⟨⟨⟨⟨⟨⟨hsel, hs⟩, hc⟩, hn⟩, hin⟩, hinv⟩, hr⟩, hf⟩ := hB
  exact wpAnyS_first hi (Region.noSelect_spec hsel) (fun _ _ _ h => h) hs hc hn hin fuel listed a w (headInvB_spec hinv) (Region.free_spec hi hf) (by simpa using hr) hy hS h
end
end Go.Proofs.YtgjlcjbmcnofiaaDoor
