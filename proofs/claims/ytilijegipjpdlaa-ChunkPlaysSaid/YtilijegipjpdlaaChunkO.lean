/-
  What chunk.Copy returns.
  Conditions: none.
-/
import Derived.Test.YtilijegipjpdlaaChunkD
import Derived.Shelf.SlMaps.Clone
import Derived.Laws.Externs
namespace Go.Proofs.Ytilijegipjpdlaa
set_option linter.unusedVariables false
open Go.RowKit IM
theorem IM.IMap.copy {w : World} {b : Nat} {k : IntKind} {L : List (Int × Value)} (h : IMap w b k L) : ∃ es clock, w.heap[b]? = some (.map es clock) ∧ IMap (w.alloc (.map es clock)) w.heap.size k L := by
  obtain ⟨h0, es, clock, h1, h2, h3⟩ := h
  exact ⟨es, clock, h1, h0, es, clock, heap_alloc_new _ _, h2, h3⟩
theorem clone_any (b : Nat) (k : IntKind) (L : List (Int × Value)) (w : World) (h : IMap w b k L) :
    Calls Try.prog 19 #[.map (some b)] w fun e w' => e = .returned (.map (some w.heap.size)) ∧ IMap w' w.heap.size k L ∧ Below w.heap.size w w' := by
  obtain ⟨es, clock, hb, hc⟩ := h.copy
  have hq := fun w => Go.Proofs.run_eql_map_nil_sl (P := Try.prog) w 63 _ _ (some b) Try.underlying63
  go_enter Try.func19, Try.ntmps19
  go_wp2
  rw [run_callFunc_extern Try.func22 (by kernel_rfl) (by kernel_rfl) (by kernel_rfl) (e := Extern.MapsClone.clone) (by kernel_rfl), Go.Proofs.run_maps_clone_sl w 63 hb]
  simp only [Result.andThen]
  rw [Oper.upon_value]
  go_wp2
  rw [Go.Proofs.run_typeAssert_map_sl _ 63 20 _ _ _ Try.underlying63]
  simp only [Result.andThen]
  rw [Oper.upon_value]
  go_wp2
  go_ret
  exact ⟨rfl, hc, ba (br _) _⟩
def CopyPost (n : Nat) (t : Int) (L : Chs) (w : World) (e : Ending) (w' : World) : Prop := ∃ D M, e = .returned (.pointer (some ⟨D, 0, none⟩)) ∧ AsmAt w' D M n t L ∧ Below w.heap.size w w' ∧ w.heap.size ≤ D ∧ w.heap.size ≤ M
set_option maxHeartbeats 2000000 in
theorem Copy_any (D M n : Nat) (t : Int) (L : Chs) (w : World) (h : AsmAt w D M n t L) :
    Calls Try.prog 14 #[.pointer (some ⟨D, 0, none⟩)] w (CopyPost n t L w) := by
  have c0 : w.cell? ⟨D, 0, none⟩ = some (.int .u64 (n : Int)) := cell_of_row _ _ 0 _ _ _ h.1
  have c1 : w.cell? ⟨D, 1, none⟩ = some (.int .i64 t) := cell_of_row _ _ 1 _ _ _ h.1
  have c2 : w.cell? ⟨D, 2, none⟩ = some (.map (some M)) := cell_of_row _ _ 2 _ _ _ h.1
  have hcl := clone_any M .i64 (strs L) w.drew h.2.drew
  have HC := Lib.hid hcl
  have HA := Lib.hid h
  have hS : ∀ w1 : World, Below w.heap.size w w1 → w1.cell? ⟨D, 0, none⟩ = some (.int .u64 (n : Int)) ∧ w1.cell? ⟨D, 1, none⟩ = some (.int .i64 t) ∧ w1.cell? ⟨D, 2, none⟩ = some (.map (some M)) := fun w1 hb =>
    ⟨(hb.cell (p := ⟨D, 0, none⟩) h.lt.1).trans c0, (hb.cell (p := ⟨D, 1, none⟩) h.lt.1).trans c1, (hb.cell (p := ⟨D, 2, none⟩) h.lt.1).trans c2⟩
  have HS := Lib.hid hS
  clear hcl h hS
  go_enter Try.func14, Try.ntmps14
  go_wp2
  go_region_held3 (fun w' => w'.cell? ⟨D, 0, none⟩ = some (.int .u64 (n : Int)) ∧ w'.cell? ⟨D, 1, none⟩ = some (.int .i64 t) ∧ w'.cell? ⟨D, 2, none⟩ = some (.map (some M)))
    (first | exact HS.out _ (by assumption) | go_keep)
    ((go_at_call 19; refine HC.out.mono ?_; rintro e w5 ⟨rfl, hm5, hb5⟩; replace hb5 : Below w.heap.size w w5 := ⟨hb5.os, hb5.tape, hb5.output, hb5.size, hb5.block⟩))
  all_goals
    go_wp2
    go_ret
    refine ⟨_, _, rfl, ⟨?_, hm5.alloc _⟩, ba hb5 _, hb5.size, Nat.le_refl _⟩
    exact heap_alloc_new _ _
end Go.Proofs.Ytilijegipjpdlaa
