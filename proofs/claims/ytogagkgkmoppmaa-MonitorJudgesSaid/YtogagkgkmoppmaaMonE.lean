/-
  The monitor's own cells: breaks, Broken, First, Len; what a stay owes.
  Conditions: those that each theorem names.
-/
import Derived.Test.YtogagkgkmoppmaaMonBD
namespace Go.Proofs.Ytogagkgkmoppmaa
set_option linter.unusedVariables false
set_option linter.unusedSimpArgs false
open Go.RowKit
/-- a monitor's cells: its maps' blocks, its row of stays, its numbers -/
structure MC where
  sb : Nat
  hb : Nat
  eb : Nat
  sa : Option Addr
  n : Nat
  sc : Nat
  lb : Nat
  nb : Nat
  broken : Int
  len : Int
  at_ : Int
  rule : Int
def monC (c : MC) : Array Value := #[.map (some c.sb), .map (some c.hb), .map (some c.eb), .slice c.sa c.n c.sc, .map (some c.lb), .map (some c.nb), .int .i64 c.broken, .int .i64 c.len, .int .i64 c.at_, .int .i64 c.rule]
/-- a rule is broken, if something is so -/
def brk (r b : Int) (c : Bool) : Int := if c = true ∧ (b = 0 ∨ r < b) then r else b
def MBk (r : Int) (b : Bool) (c : MC) : MC := { c with broken := brk r c.broken b }
def MAt (w : World) (B : Nat) (c : MC) : Prop := w.heap[B]? = some (.cells (monC c) 54 (0, 0))
theorem MAt.lt {w : World} {B : Nat} {c : MC} (h : MAt w B c) : B < w.heap.size := (Array.getElem?_eq_some_iff.1 h).1
theorem MAt.below {w w' : World} {B : Nat} {c : MC} (h : MAt w B c) (hb : Below w.heap.size w w') : MAt w' B c := (hb.block _ h.lt).trans h
theorem keptS (w : World) (p : Addr) (v : Value) : Kept (fun b => b = p.block) w (w.setCell p v) := (show Kept (fun b => b = p.block) w w from .refl _ _).setCell rfl _
set_option maxHeartbeats 2000000 in
theorem breaks_any (w : World) (B : Nat) (c : MC) (h : MAt w B c) (r : Int) (b : Bool) :
    Calls Try.prog 20 #[.pointer (some ⟨B, 0, none⟩), .int .i64 r, .bool b] w fun e w' => e = .returned (.tuple #[]) ∧ MAt w' B (MBk r b c) ∧ Kept (fun k => k = B) w w' := by
  unfold MAt at h
  have c6 : w.cell? ⟨B, 6, none⟩ = some (.int .i64 c.broken) := cell_of_row _ _ 6 _ _ _ h
  have f6 : w.frozen? ⟨B, 6, none⟩ = false := frozen_of_row _ _ _ _ _ h
  have HH := Lib.hid h
  by_cases hq : b = true ∧ (c.broken = 0 ∨ r < c.broken)
  · obtain ⟨hb, hq⟩ := hq
    subst hb
    have HE := Lib.hid (show MAt (w.setCell ⟨B, 6, none⟩ (.int .i64 r)) B (MBk r true c) ∧ Kept (fun k => k = B) w (w.setCell ⟨B, 6, none⟩ (.int .i64 r)) from by
      refine ⟨?_, keptS w ⟨B, 6, none⟩ _⟩
      have := setCell_block h 6 (.int .i64 r)
      unfold MAt MBk brk
      rw [if_pos ⟨rfl, hq⟩]
      exact this)
    clear h
    generalize c.broken = k at *
    by_cases h0 : k = 0
    · subst h0
      go_enter Try.func20, Try.ntmps20
      go_wp2_with fail
      go_end0
      exact ⟨rfl, HE.out⟩
    · have d0 : (k == 0) = false := by simpa using h0
      have d1 : decide (r < k) = true := by simp; omega
      go_enter Try.func20, Try.ntmps20
      go_wp2_with fail
      go_end0
      exact ⟨rfl, HE.out⟩
  · have HE := Lib.hid (show MAt w B (MBk r b c) ∧ Kept (fun k => k = B) w w from by
      refine ⟨?_, .refl _ _⟩
      unfold MAt MBk brk
      rw [if_neg hq]
      exact h)
    clear h
    generalize c.broken = k at *
    cases b
    · go_enter Try.func20, Try.ntmps20
      go_wp2_with fail
      go_end0
      exact ⟨rfl, HE.out⟩
    · have h0 : ¬ k = 0 := fun h => hq ⟨rfl, .inl h⟩
      have h1 : ¬ r < k := fun h => hq ⟨rfl, .inr h⟩
      have d0 : (k == 0) = false := by simpa using h0
      have d1 : decide (r < k) = false := by simpa using h1
      go_enter Try.func20, Try.ntmps20
      go_wp2_with fail
      go_end0
      exact ⟨rfl, HE.out⟩
theorem broken_any (w : World) (B : Nat) (c : MC) (h : MAt w B c) : Calls Try.prog 12 #[.pointer (some ⟨B, 0, none⟩)] w fun e w' => e = .returned (.int .i64 c.broken) ∧ w = w' := by
  have c6 : w.cell? ⟨B, 6, none⟩ = some (.int .i64 c.broken) := cell_of_row _ _ 6 _ _ _ h
  clear h
  generalize c.broken = k at *
  go_enter Try.func12, Try.ntmps12
  go_wp2
  go_ret
  exact ⟨rfl, rfl⟩
theorem len_any (w : World) (B : Nat) (c : MC) (h : MAt w B c) : Calls Try.prog 13 #[.pointer (some ⟨B, 0, none⟩)] w fun e w' => e = .returned (.int .i64 c.len) ∧ w = w' := by
  have c6 : w.cell? ⟨B, 7, none⟩ = some (.int .i64 c.len) := cell_of_row _ _ 7 _ _ _ h
  clear h
  generalize c.len = k at *
  go_enter Try.func13, Try.ntmps13
  go_wp2
  go_ret
  exact ⟨rfl, rfl⟩
theorem first_any (w : World) (B : Nat) (c : MC) (h : MAt w B c) : Calls Try.prog 10 #[.pointer (some ⟨B, 0, none⟩)] w fun e w' => e = .returned (.tuple #[.int .i64 c.at_, .int .i64 c.rule]) ∧ Below w.heap.size w w' := by
  have c8 : w.cell? ⟨B, 8, none⟩ = some (.int .i64 c.at_) := cell_of_row _ _ 8 _ _ _ h
  have c9 : w.cell? ⟨B, 9, none⟩ = some (.int .i64 c.rule) := cell_of_row _ _ 9 _ _ _ h
  clear h
  generalize c.at_ = k at *
  generalize c.rule = l at *
  have c89 := Lib.hid (show w.drew.cell? ⟨B, 8, none⟩ = some (.int .i64 k) ∧ w.drew.cell? ⟨B, 9, none⟩ = some (.int .i64 l) from ⟨c8, c9⟩)
  have hb := (br w).drew
  go_enter Try.func10, Try.ntmps10
  go_upto_region 1 with (fail)
  refine wp_region_mask (fun w' => w'.cell? ⟨B, 8, none⟩ = some (.int .i64 k) ∧ w'.cell? ⟨B, 9, none⟩ = some (.int .i64 l)) 9 2 [true, true, true, true, true, true, true, true, false, false] #[true, true, true, true, true, true, true, true, false, false] (by kernel_rfl) (by kernel_rfl) (by kernel_rfl) c89.out ?_
  clear c8 c9
  generalize w.drew = w5 at *
  iterate 8
    refine wpMask_take _ (Or.inl ⟨by rfl, fun w' hS => by (try dsimp only at hS); obtain ⟨hS1, hS2⟩ := hS; go_simp; try with_reducible rfl⟩) ?_
    simp only [Act.put, List.setIfInBounds_toArray, List.set_cons_zero, List.set_cons_succ]
  refine wpMask_skip (wpMask_skip (wpMask_nil ?_))
  refine wpAnyS_ready (rs := [8]) (by kernel_rfl) (by simp) ?_
  refine AllReadyS.cons rfl (fun K hK => ?_) AllReadyS.nil
  go_simp
  refine hK.out _ _ (fun _ => c89.out) ?_
  clear hK K
  simp only [Act.put, List.setIfInBounds_toArray, List.set_cons_zero, List.set_cons_succ]
  refine wpAnyS_ready (rs := [9]) (by kernel_rfl) (by simp) ?_
  refine AllReadyS.cons rfl (fun K hK => ?_) AllReadyS.nil
  go_simp
  refine hK.out _ _ (fun h => absurd h (by decide)) ?_
  clear hK K
  simp only [Act.put, List.setIfInBounds_toArray, List.set_cons_zero, List.set_cons_succ]
  refine wpAnyS_done (by kernel_rfl) ?_ _
  go_wp2_with fail
  go_ret2
  exact ⟨rfl, hb⟩
end Go.Proofs.Ytogagkgkmoppmaa
