/-
  What stream.New, Count, Held, Lacks return; what Take does ahead of its loop.
  Conditions: none.
-/
import Derived.Test.YtodlmboagbjcbaaMsgC
import Derived.Test.YtodlmboagbjcbaaIMap
import Derived.Deep.RegionHeld3
namespace Go.Proofs.Ytodlmboagbjcbaa
set_option linter.unusedVariables false
open Go.RowKit IM
/-- messages that are held, by their numbers -/
abbrev Hel := List (Nat × Msg)
def heldL (H : Hel) : List (Int × Value) := H.map fun x => ((x.1 : Int), .agg (msgA x.2))
def hasH (H : Hel) (q : Nat) : Bool := H.any fun x => x.1 == q
def zeroM : Msg := ⟨0, 0, 0, 0, [], ⟨#[]⟩, none, 0⟩
def getH (H : Hel) (q : Nat) : Msg := ((H.find? fun x => x.1 == q).map (·.2)).getD zeroM
def StrAt (w : World) (D M : Nat) (z : Int) (c : Nat) (H : Hel) : Prop := w.heap[D]? = some (.cells #[.int .i64 z, .int .u32 (c : Int), .map (some M)] 77 (0, 0)) ∧ IMap w M .u32 (heldL H)
theorem StrAt.ne {w : World} {D M c : Nat} {z : Int} {H : Hel} (h : StrAt w D M z c H) : D ≠ M := by
  rintro rfl
  obtain ⟨h0, _, es, k, h1, _⟩ := h
  rw [h0] at h1
  cases h1
theorem StrAt.lt {w : World} {D M c : Nat} {z : Int} {H : Hel} (h : StrAt w D M z c H) : D < w.heap.size ∧ M < w.heap.size := ⟨(Array.getElem?_eq_some_iff.1 h.1).1, h.2.lt⟩
theorem StrAt.kept {w w' : World} {D M c : Nat} {z : Int} {H : Hel} {S : Nat → Prop} (h : StrAt w D M z c H) (hk : Kept S w w') (hD : ¬ S D) (hM : ¬ S M) : StrAt w' D M z c H :=
  ⟨hk.keep h.1 hD, h.2.keep (hk.block _ h.2.lt hM)⟩
theorem StrAt.below {w w' : World} {D M c : Nat} {z : Int} {H : Hel} (h : StrAt w D M z c H) (hb : Below w.heap.size w w') : StrAt w' D M z c H := h.kept (S := fun _ => False) (.of_below hb) (fun h => h) (fun h => h)
def Two (D M : Nat) (k : Nat) : Prop := k = D ∨ k = M
theorem heldL_length (H : Hel) : (heldL H).length = H.length := by unfold heldL; simp
theorem heldL_has (H : Hel) (q : Nat) : IM.has (heldL H) (q : Int) = hasH H q := by
  unfold IM.has hasH heldL
  induction H with
  | nil => rfl
  | cons x H ih =>
    simp only [List.map_cons, List.find?_cons, List.any_cons]
    by_cases h : x.1 = q
    · have h1 : ((x.1 : Int) == (q : Int)) = true := by simp; omega
      have h2 : (x.1 == q) = true := by simpa using h
      rw [h1, h2]
      simp
    · have h1 : ((x.1 : Int) == (q : Int)) = false := by simp; omega
      have h2 : (x.1 == q) = false := by simpa using h
      rw [h1, h2]
      simpa using ih
theorem heldL_get (H : Hel) (q : Nat) : (IM.get (heldL H) (q : Int)).getD (.agg (msgA zeroM)) = .agg (msgA (getH H q)) := by
  unfold IM.get getH heldL
  induction H with
  | nil => rfl
  | cons x H ih =>
    simp only [List.map_cons, List.find?_cons]
    by_cases h : x.1 = q
    · have h1 : ((x.1 : Int) == (q : Int)) = true := by simp; omega
      have h2 : (x.1 == q) = true := by simpa using h
      rw [h1, h2]
      simp
    · have h1 : ((x.1 : Int) == (q : Int)) = false := by simp; omega
      have h2 : (x.1 == q) = false := by simpa using h
      rw [h1, h2]
      exact ih
def sizeZ (n : Int) : Int := max 1 (min n 64)
def SNewPost (z : Int) (w : World) (e : Ending) (w' : World) : Prop := ∃ D M, e = .returned (.pointer (some ⟨D, 0, none⟩)) ∧ StrAt w' D M z 0 [] ∧ Below w.heap.size w w' ∧ w.heap.size ≤ D ∧ w.heap.size ≤ M
theorem sNew_any (n : Int) (w : World) : Calls Try.prog 15 #[.int .i64 n] w (SNewPost (sizeZ n) w) := by
  have hmm := @run_makeMap Try.prog
  by_cases h1 : n ≤ 1
  · rw [show sizeZ n = 1 from by unfold sizeZ; omega]
    have d1 : n ≤ 64 := by omega
    go_enter Try.func15, Try.ntmps15
    go_wp2
    all_goals first
      | (exfalso; omega)
      | (go_ret; exact ⟨w.heap.size + 1, w.heap.size, rfl, ⟨heap_alloc2_new _ _ _, (IMap.made w .u32).alloc _⟩, ba (ba (br _) _) _, by omega, Nat.le_refl _⟩)
  by_cases h2 : n ≤ 64
  · rw [show sizeZ n = n from by unfold sizeZ; omega]
    have d1 : 1 < n := by omega
    go_enter Try.func15, Try.ntmps15
    go_wp2
    all_goals first
      | (exfalso; omega)
      | (go_ret; exact ⟨w.heap.size + 1, w.heap.size, rfl, ⟨heap_alloc2_new _ _ _, (IMap.made w .u32).alloc _⟩, ba (ba (br _) _) _, by omega, Nat.le_refl _⟩)
  · rw [show sizeZ n = 64 from by unfold sizeZ; omega]
    have d1 : 64 < n := by omega
    go_enter Try.func15, Try.ntmps15
    go_wp2
    all_goals first
      | (exfalso; omega)
      | (go_ret; exact ⟨w.heap.size + 1, w.heap.size, rfl, ⟨heap_alloc2_new _ _ _, (IMap.made w .u32).alloc _⟩, ba (ba (br _) _) _, by omega, Nat.le_refl _⟩)
theorem sCount_any (D M c : Nat) (z : Int) (H : Hel) (w : World) (h : StrAt w D M z c H) : Calls Try.prog 22 #[.pointer (some ⟨D, 0, none⟩)] w fun e w' => e = .returned (.int .u32 (c : Int)) ∧ w = w' := by
  have c1 : w.cell? ⟨D, 1, none⟩ = some (.int .u32 (c : Int)) := cell_of_row _ _ 1 _ _ _ h.1
  clear h
  go_enter Try.func22, Try.ntmps22
  go_wp2
  go_ret
  exact ⟨rfl, rfl⟩
theorem sHeld_any (D M c : Nat) (z : Int) (H : Hel) (w : World) (h : StrAt w D M z c H) : Calls Try.prog 23 #[.pointer (some ⟨D, 0, none⟩)] w fun e w' => e = .returned (.int .i64 (H.length : Int)) ∧ w = w' := by
  have c2 : w.cell? ⟨D, 2, none⟩ = some (.map (some M)) := cell_of_row _ _ 2 _ _ _ h.1
  have hl := h.2.len Try.underlying75 3
  rw [heldL_length] at hl
  clear h
  go_enter Try.func23, Try.ntmps23
  go_wp2
  go_ret
  exact ⟨rfl, rfl⟩
end Go.Proofs.Ytodlmboagbjcbaa
