/-
  What stream.Copy returns.
  Conditions: none.
-/
import Derived.Test.YtodlmboagbjcbaaStreamC
import Derived.Shelf.SlMaps.Clone
import Derived.Laws.Externs
namespace Go.Proofs.Ytodlmboagbjcbaa
set_option linter.unusedVariables false
open Go.RowKit IM
theorem IM.IMap.copy {w : World} {b : Nat} {k : IntKind} {L : List (Int × Value)} (h : IMap w b k L) : ∃ es clock, w.heap[b]? = some (.map es clock) ∧ IMap (w.alloc (.map es clock)) w.heap.size k L := by
  obtain ⟨h0, es, clock, h1, h2, h3⟩ := h
  exact ⟨es, clock, h1, h0, es, clock, heap_alloc_new _ _, h2, h3⟩
set_option maxRecDepth 100000 in
set_option maxHeartbeats 2000000 in
theorem cloneM_any (b : Nat) (k : IntKind) (L : List (Int × Value)) (w : World) (h : IMap w b k L) :
    Calls Try.prog 41 #[.map (some b)] w fun e w' => e = .returned (.map (some w.heap.size)) ∧ IMap w' w.heap.size k L ∧ Below w.heap.size w w' := by
  obtain ⟨es, clock, hb, hc⟩ := h.copy
  have hq := fun w => Go.Proofs.run_eql_map_nil_sl (P := Try.prog) w 75 _ _ (some b) Try.underlying75
  go_enter Try.func41, Try.ntmps41
  go_wp2
  rw [run_callFunc_extern Try.func56 (by kernel_rfl) (by kernel_rfl) (by kernel_rfl) (e := Extern.MapsClone.clone) (by kernel_rfl), Go.Proofs.run_maps_clone_sl w 75 hb]
  simp only [Result.andThen]
  rw [Oper.upon_value]
  go_wp2
  rw [Go.Proofs.run_typeAssert_map_sl _ 75 20 _ _ _ Try.underlying75]
  simp only [Result.andThen]
  rw [Oper.upon_value]
  go_wp2
  go_ret
  exact ⟨rfl, hc, ba (br _) _⟩
def SCopyPost (z : Int) (c : Nat) (H : Hel) (w : World) (e : Ending) (w' : World) : Prop := ∃ D M, e = .returned (.pointer (some ⟨D, 0, none⟩)) ∧ StrAt w' D M z c H ∧ Below w.heap.size w w' ∧ w.heap.size ≤ D ∧ w.heap.size ≤ M
set_option maxHeartbeats 2000000 in
theorem sCopy_any (D M c : Nat) (z : Int) (H : Hel) (w : World) (h : StrAt w D M z c H) :
    Calls Try.prog 25 #[.pointer (some ⟨D, 0, none⟩)] w (SCopyPost z c H w) := by
  have c0 : w.cell? ⟨D, 0, none⟩ = some (.int .i64 z) := cell_of_row _ _ 0 _ _ _ h.1
  have c1 : w.cell? ⟨D, 1, none⟩ = some (.int .u32 (c : Int)) := cell_of_row _ _ 1 _ _ _ h.1
  have c2 : w.cell? ⟨D, 2, none⟩ = some (.map (some M)) := cell_of_row _ _ 2 _ _ _ h.1
  have hcl := cloneM_any M .u32 (heldL H) w.drew h.2.drew
  have HC := Lib.hid hcl
  have HA := Lib.hid h
  have hS : ∀ w1 : World, Below w.heap.size w w1 → w1.cell? ⟨D, 0, none⟩ = some (.int .i64 z) ∧ w1.cell? ⟨D, 1, none⟩ = some (.int .u32 (c : Int)) ∧ w1.cell? ⟨D, 2, none⟩ = some (.map (some M)) := fun w1 hb =>
    ⟨(hb.cell (p := ⟨D, 0, none⟩) h.lt.1).trans c0, (hb.cell (p := ⟨D, 1, none⟩) h.lt.1).trans c1, (hb.cell (p := ⟨D, 2, none⟩) h.lt.1).trans c2⟩
  have HS := Lib.hid hS
  clear hcl h hS
  go_enter Try.func25, Try.ntmps25
  go_wp2
  go_region_held3 (fun w' => w'.cell? ⟨D, 0, none⟩ = some (.int .i64 z) ∧ w'.cell? ⟨D, 1, none⟩ = some (.int .u32 (c : Int)) ∧ w'.cell? ⟨D, 2, none⟩ = some (.map (some M)))
    (first | exact HS.out _ (by assumption) | go_keep)
    ((go_at_call 41; refine HC.out.mono ?_; rintro e w5 ⟨rfl, hm5, hb5⟩; replace hb5 : Below w.heap.size w w5 := ⟨hb5.os, hb5.tape, hb5.output, hb5.size, hb5.block⟩))
  all_goals
    go_wp2
    go_ret
    refine ⟨_, _, rfl, ⟨?_, hm5.alloc _⟩, ba hb5 _, hb5.size, Nat.le_refl _⟩
    exact heap_alloc_new _ _
/-- count and held behind the first messages -/
def stS (z : Int) (l : List Msg) (k : Nat) : Nat × Hel := (l.take k).foldl (fun p m => ((takeS z p.1 p.2 m).1, (takeS z p.1 p.2 m).2.1)) (0, [])
theorem stS_succ (z : Int) (l : List Msg) (k : Nat) (h : k < l.length) : stS z l (k + 1) = ((takeS z (stS z l k).1 (stS z l k).2 l[k]).1, (takeS z (stS z l k).1 (stS z l k).2 l[k]).2.1) := by
  unfold stS
  rw [List.take_succ_eq_append_getElem h, List.foldl_append]
  rfl
theorem drainF_inv : ∀ (f c : Nat) (H : Hel) (O : List Msg), Keys H → Keys (drainF f c H O).2.1 ∧ (drainF f c H O).1 + (drainF f c H O).2.1.length = c + H.length ∧ (drainF f c H O).2.2.length + c = O.length + (drainF f c H O).1 := by
  intro f
  induction f with
  | zero => intro c H O h; exact ⟨h, rfl, by rw [drainF]⟩
  | succ f ih =>
    intro c H O h
    rw [drainF]
    by_cases hh : hasH H (c + 1) = true
    · rw [if_pos hh]
      have h1 := delH_length h hh
      obtain ⟨g1, g2, g3⟩ := ih (c + 1) (delH H (c + 1)) (O ++ [getH H (c + 1)]) (h.del _)
      refine ⟨g1, by omega, ?_⟩
      simp at g3
      omega
    · rw [if_neg hh]
      exact ⟨h, rfl, rfl⟩
theorem takeS_inv (z : Int) (c : Nat) (H : Hel) (m : Msg) (h : Keys H) : Keys (takeS z c H m).2.1 ∧ (takeS z c H m).1 + (takeS z c H m).2.1.length ≤ c + H.length + 1 ∧ (takeS z c H m).2.2.length + c = (takeS z c H m).1 := by
  unfold takeS
  by_cases hc : codeS z c H m = 0
  · rw [if_pos hc]
    have hn : hasH H m.seq = false := by
      unfold codeS at hc
      by_cases h1 : m.seq = 0
      · rw [if_pos h1] at hc; cases hc
      · rw [if_neg h1] at hc
        by_cases h2 : m.seq ≤ c ∨ hasH H m.seq = true
        · rw [if_pos h2] at hc; cases hc
        · cases hx : hasH H m.seq
          · rfl
          · exact absurd (.inr hx) h2
    obtain ⟨g1, g2, g3⟩ := drainF_inv (H.length + 1) c (H ++ [(m.seq, m)]) [] (h.add hn m)
    refine ⟨g1, ?_, ?_⟩
    · simp at g2; omega
    · simp at g3; omega
  · rw [if_neg hc]
    exact ⟨h, by simp, by simp⟩
theorem stS_inv (z : Int) (l : List Msg) : ∀ k, k ≤ l.length → Keys (stS z l k).2 ∧ (stS z l k).1 + (stS z l k).2.length ≤ k := by
  intro k
  induction k with
  | zero => intro _; exact ⟨List.nodup_nil, by simp [stS]⟩
  | succ k ih =>
    intro hk
    obtain ⟨g1, g2⟩ := ih (by omega)
    rw [stS_succ z l k (by omega)]
    obtain ⟨h1, h2, h3⟩ := takeS_inv z (stS z l k).1 (stS z l k).2 l[k] g1
    exact ⟨h1, by simp only; omega⟩
end Go.Proofs.Ytodlmboagbjcbaa
