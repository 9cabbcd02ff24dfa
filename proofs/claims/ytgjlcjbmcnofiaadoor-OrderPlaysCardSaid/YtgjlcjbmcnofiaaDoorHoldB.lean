/-
  A hold in memory; what hold's New, process, Low, Count return.
  Conditions: none.
-/
import Derived.Test.YtgjlcjbmcnofiaaDoorHoldA
namespace Go.Proofs.YtgjlcjbmcnofiaaDoor
set_option linter.unusedVariables false
set_option linter.unusedSimpArgs false
open Go.RowKit
def upd {α : Type} (f : Nat → α) (p : Nat) (x : α) : Nat → α := fun q => if q = p then x else f q
theorem upd_same {α : Type} (f : Nat → α) (p : Nat) (x : α) : upd f p x p = x := by simp [upd]
theorem upd_ne {α : Type} (f : Nat → α) {p q : Nat} (x : α) (h : q ≠ p) : upd f p x q = f q := by simp [upd, h]
/-- a hold's cells -/
def holdL (lo : Nat → Nat) (V : Nat → Value) : List Value := (List.range 64).map (fun p => Value.int .u32 (lo p : Int)) ++ (List.range 64).map V
def holdC (lo : Nat → Nat) (V : Nat → Value) : Array Value := (holdL lo V).toArray
theorem holdC_lo (lo : Nat → Nat) (V : Nat → Value) {p : Nat} (hp : p < 64) : (holdC lo V)[p]? = some (.int .u32 (lo p : Int)) := by
  unfold holdC holdL
  rw [List.getElem?_toArray, List.getElem?_append_left (by simpa using hp), List.getElem?_map, List.getElem?_range hp]; rfl
theorem holdC_v (lo : Nat → Nat) (V : Nat → Value) {p : Nat} (hp : p < 64) : (holdC lo V)[64 + p]? = some (V p) := by
  unfold holdC holdL
  rw [List.getElem?_toArray, List.getElem?_append_right (by simp), List.getElem?_map]
  simp [List.getElem?_range hp]
theorem holdL_len (lo : Nat → Nat) (V : Nat → Value) : (holdL lo V).length = 128 := by simp [holdL]
theorem holdC_setlo (lo : Nat → Nat) (V : Nat → Value) {p : Nat} (hp : p < 64) (n : Nat) : (holdC lo V).setIfInBounds p (.int .u32 (n : Int)) = holdC (upd lo p n) V := by
  refine Array.ext' (List.ext_getElem? fun j => ?_)
  unfold holdC
  rw [Array.toList_setIfInBounds]
  show ((holdL lo V).set p _)[j]? = (holdL (upd lo p n) V)[j]?
  rw [List.getElem?_set]
  by_cases hj : p = j
  · subst hj
    rw [if_pos rfl, if_pos (by rw [holdL_len]; omega)]
    unfold holdL
    rw [List.getElem?_append_left (by simpa using hp), List.getElem?_map, List.getElem?_range hp]
    simp [upd]
  · rw [if_neg hj]
    unfold holdL
    by_cases hj2 : j < 64
    · rw [List.getElem?_append_left (by simpa using hj2), List.getElem?_append_left (by simpa using hj2), List.getElem?_map, List.getElem?_map, List.getElem?_range hj2]
      simp [upd, Ne.symm hj]
    · rw [List.getElem?_append_right (by simp; omega), List.getElem?_append_right (by simp; omega)]
      simp
theorem holdC_setv (lo : Nat → Nat) (V : Nat → Value) {p : Nat} (hp : p < 64) (x : Value) : (holdC lo V).setIfInBounds (64 + p) x = holdC lo (upd V p x) := by
  refine Array.ext' (List.ext_getElem? fun j => ?_)
  unfold holdC
  rw [Array.toList_setIfInBounds]
  show ((holdL lo V).set (64 + p) _)[j]? = (holdL lo (upd V p x))[j]?
  rw [List.getElem?_set]
  by_cases hj : 64 + p = j
  · subst hj
    rw [if_pos rfl, if_pos (by rw [holdL_len]; omega)]
    unfold holdL
    rw [List.getElem?_append_right (by simp)]
    simp [List.getElem?_range hp, upd]
  · rw [if_neg hj]
    unfold holdL
    by_cases hj2 : j < 64
    · rw [List.getElem?_append_left (by simpa using hj2), List.getElem?_append_left (by simpa using hj2)]
    · rw [List.getElem?_append_right (by simp; omega), List.getElem?_append_right (by simp; omega)]
      by_cases hj3 : j - 64 < 64
      · simp [List.getElem?_range hj3, upd, show j - 64 ≠ p by omega]
      · rw [List.getElem?_eq_none (by simp; omega), List.getElem?_eq_none (by simp; omega)]
/-- block D is a hold: lo: how many of each process were dropped; R: its messages; V: the slices that hold them -/
structure HoldAt (w : World) (D : Nat) (lo : Nat → Nat) (R : Nat → List Msg) (V : Nat → Value) : Prop where
  blk : w.heap[D]? = some (.cells (holdC lo V) 133 (0, 0))
  own : ∀ p, p < 64 → w.ownsRow 0 42 6 (V p) (R p).length (rowsM (R p))
  apart : ∀ p q b, p < 64 → q < 64 → p ≠ q → (V p).ownBlock = some b → (V q).ownBlock ≠ some b
  ok : ∀ p, p < 64 → ∀ m ∈ R p, FreshM 0 w m
/-- the blocks that a hold writes -/
def holdS (D : Nat) (V : Nat → Value) (b : Nat) : Prop := b = D ∨ ∃ p, p < 64 ∧ (V p).ownBlock = some b
theorem HoldAt.lt {w : World} {D : Nat} {lo : Nat → Nat} {R : Nat → List Msg} {V : Nat → Value} (h : HoldAt w D lo R V) : D < w.heap.size := (Array.getElem?_eq_some_iff.1 h.blk).1
theorem HoldAt.kept {w w' : World} {D : Nat} {lo : Nat → Nat} {R : Nat → List Msg} {V : Nat → Value} {S : Nat → Prop} (h : HoldAt w D lo R V) (hk : Kept S w w') (hs : ∀ b, holdS D V b → ¬ S b)
    (hm : ∀ p, p < 64 → ∀ m ∈ R p, ∀ b, (Value.slice m.da m.ds.length m.dc).ownBlock = some b → ¬ S b) : HoldAt w' D lo R V :=
  ⟨hk.keep h.blk (hs D (.inl rfl)), fun p hp => own_keptS (h.own p hp) hk (fun b hb => hs b (.inr ⟨p, hp, hb⟩)), h.apart, fun p hp m hm' => (h.ok p hp m hm').kept hk (hm p hp m hm')⟩
theorem HoldAt.below {w w' : World} {D : Nat} {lo : Nat → Nat} {R : Nat → List Msg} {V : Nat → Value} (h : HoldAt w D lo R V) (hb : Below w.heap.size w w') : HoldAt w' D lo R V :=
  h.kept (S := fun _ => False) (.of_below hb) (fun _ _ h => h) (fun _ _ _ _ _ _ h => h)
def HoldBd (lo : Nat → Nat) (R : Nat → List Msg) : Prop := ∀ p, p < 64 → (R p).length ≤ 1000 ∧ lo p ≤ 100000
theorem HoldAt.clo {w : World} {D : Nat} {lo : Nat → Nat} {R : Nat → List Msg} {V : Nat → Value} (h : HoldAt w D lo R V) {p : Nat} (hp : p < 64) : w.cell? ⟨D, p, none⟩ = some (.int .u32 (lo p : Int)) := (cell_of_row _ _ p _ _ _ h.blk).trans (holdC_lo lo V hp)
theorem HoldAt.cv {w : World} {D : Nat} {lo : Nat → Nat} {R : Nat → List Msg} {V : Nat → Value} (h : HoldAt w D lo R V) {p : Nat} (hp : p < 64) : w.cell? ⟨D, 64 + p, none⟩ = some (V p) := (cell_of_row _ _ (64 + p) _ _ _ h.blk).trans (holdC_v lo V hp)
theorem HoldAt.free {w : World} {D : Nat} {lo : Nat → Nat} {R : Nat → List Msg} {V : Nat → Value} (h : HoldAt w D lo R V) (i : Nat) : w.frozen? ⟨D, i, none⟩ = false := frozen_of_row _ _ _ _ _ h.blk
theorem HoldAt.form {w : World} {D : Nat} {lo : Nat → Nat} {R : Nat → List Msg} {V : Nat → Value} (h : HoldAt w D lo R V) {p : Nat} (hp : p < 64) : ∃ ad cap, V p = .slice ad (R p).length cap := ownForm (h.own p hp)
def procB (p : Int) : Bool := decide (0 ≤ p ∧ p < 64)
set_option maxRecDepth 100000 in
set_option maxHeartbeats 2000000 in
theorem process_any (p : Int) (w : World) : Calls Tryd.prog 72 #[.int .i64 p] w fun e w' => e = .returned (.bool (procB p)) ∧ w = w' := by
  obtain ⟨q, hq⟩ : ∃ q, q = procB p := ⟨_, rfl⟩
  rw [← hq]
  by_cases h1 : 0 ≤ p
  · have d1 : decide (0 ≤ p) = true := by simpa using h1
    by_cases h2 : p < 64
    · have d2 : decide (p < 64) = true := by simpa using h2
      obtain rfl : q = true := by rw [hq]; simp [procB, h1, h2]
      clear hq
      go_enter Tryd.func72, Tryd.ntmps72
      go_wp2
      go_ret
      exact ⟨rfl, rfl⟩
    · have d2 : decide (p < 64) = false := by simpa using h2
      obtain rfl : q = false := by rw [hq]; simp [procB, h1, h2]
      clear hq
      go_enter Tryd.func72, Tryd.ntmps72
      go_wp2
      go_ret
      exact ⟨rfl, rfl⟩
  · have d1 : decide (0 ≤ p) = false := by simpa using h1
    obtain rfl : q = false := by rw [hq]; simp [procB, h1]
    clear hq
    go_enter Tryd.func72, Tryd.ntmps72
    go_wp2
    go_ret
    exact ⟨rfl, rfl⟩
set_option maxRecDepth 100000 in
set_option maxHeartbeats 2000000 in
theorem hNew_any (w : World) : Calls Tryd.prog 44 #[] w fun e w' => e = .returned (.pointer (some ⟨w.heap.size, 0, none⟩)) ∧ HoldAt w' w.heap.size (fun _ => 0) (fun _ => []) (fun _ => .slice none 0 0) ∧ Below w.heap.size w w' := by
  have hz : ∀ W : World, (zeroValue 133).run Tryd.prog W = .ok (.agg (holdC (fun _ => 0) (fun _ => .slice none 0 0))) W := fun W => by kernel_rfl
  go_enter Tryd.func44, Tryd.ntmps44
  go_wp2
  go_ret
  refine ⟨rfl, ⟨heap_alloc_new w _, fun p hp => ⟨rfl, .inl ⟨rfl, rfl⟩⟩, fun p q b _ _ _ h => (by cases h), fun p hp m hm => (by cases hm)⟩, ba (br w) _⟩
set_option maxRecDepth 100000 in
set_option maxHeartbeats 2000000 in
theorem hLow_in (D : Nat) (lo : Nat → Nat) (R : Nat → List Msg) (V : Nat → Value) (p : Nat) (w : World) (h : HoldAt w D lo R V) (hp : p < 64) :
    Calls Tryd.prog 77 #[.pointer (some ⟨D, 0, none⟩), .int .i64 (p : Int)] w fun e w' => e = .returned (.int .u32 (lo p : Int)) ∧ w = w' := by
  have c1 := h.clo hp
  have HP := Lib.hid (process_any (p : Int) w)
  rw [show procB (p : Int) = true by simp [procB]; omega] at HP
  have hi : (p : Int) < 64 := by omega
  clear h
  go_enter Tryd.func77, Tryd.ntmps77
  go_wp2_with fail
  refine HP.out.mono ?_
  rintro e w' ⟨rfl, rfl⟩
  go_wp2
  go_ret
  exact ⟨rfl, rfl⟩
set_option maxRecDepth 100000 in
set_option maxHeartbeats 2000000 in
theorem hLow_out (D : Nat) (p : Int) (w : World) (hp : procB p = false) :
    Calls Tryd.prog 77 #[.pointer (some ⟨D, 0, none⟩), .int .i64 p] w fun e w' => e = .returned (.int .u32 0) ∧ w = w' := by
  have HP := Lib.hid (process_any p w)
  rw [hp] at HP
  clear hp
  go_enter Tryd.func77, Tryd.ntmps77
  go_wp2_with fail
  refine HP.out.mono ?_
  rintro e w' ⟨rfl, rfl⟩
  go_wp2
  go_ret
  exact ⟨rfl, rfl⟩
set_option maxRecDepth 100000 in
set_option maxHeartbeats 2000000 in
theorem hCount_out (D : Nat) (p : Int) (w : World) (hp : procB p = false) :
    Calls Tryd.prog 73 #[.pointer (some ⟨D, 0, none⟩), .int .i64 p] w fun e w' => e = .returned (.int .u32 0) ∧ w = w' := by
  have HP := Lib.hid (process_any p w)
  rw [hp] at HP
  clear hp
  go_enter Tryd.func73, Tryd.ntmps73
  go_wp2_with fail
  refine HP.out.mono ?_
  rintro e w' ⟨rfl, rfl⟩
  go_wp2
  go_ret
  exact ⟨rfl, rfl⟩
set_option maxRecDepth 100000 in
set_option maxHeartbeats 2000000 in
theorem hCount_in (D : Nat) (lo : Nat → Nat) (R : Nat → List Msg) (V : Nat → Value) (p : Nat) (w : World) (h : HoldAt w D lo R V) (hp : p < 64) (hb : HoldBd lo R) :
    Calls Tryd.prog 73 #[.pointer (some ⟨D, 0, none⟩), .int .i64 (p : Int)] w fun e w' => e = .returned (.int .u32 ((lo p + (R p).length : Nat) : Int)) ∧ Below w.heap.size w w' := by
  have c1 := Bel.cell (h.clo hp) h.lt
  obtain ⟨ad, cap, hv⟩ := h.form hp
  have c2' := h.cv hp
  rw [hv] at c2'
  have c2 := Bel.cell c2' h.lt
  have HP := Lib.hid (process_any (p : Int) w)
  rw [show procB (p : Int) = true by simp [procB]; omega] at HP
  have hi : (p : Int) < 64 := by omega
  obtain ⟨b1, b2⟩ := hb p hp
  obtain ⟨n, hn⟩ : ∃ n, n = (R p).length := ⟨_, rfl⟩
  obtain ⟨l0, hl0⟩ : ∃ n, n = lo p := ⟨_, rfl⟩
  rw [← hn] at b1 c2 ⊢
  rw [← hl0] at b2 c1 ⊢
  obtain ⟨s, hs⟩ : ∃ s : Nat, (l0 : Int) + (n : Int) = (s : Int) := ⟨l0 + n, by omega⟩
  rw [show l0 + n = s by omega]
  have hw1 : IntKind.u32.wrap (n : Int) = (n : Int) := by rw [IntKind.wrap_u32]; omega
  have hw2 : IntKind.u32.wrap ((l0 : Int) + (n : Int)) = (s : Int) := by rw [hs, IntKind.wrap_u32]; omega
  clear h hv c2' hb hn hl0
  go_enter Tryd.func73, Tryd.ntmps73
  go_wp2_with fail
  refine HP.out.mono ?_
  rintro e w' ⟨rfl, rfl⟩
  go_wp2_with fail
  refine wp_region_bel (by kernel_rfl) (by kernel_rfl) ?_
  repeat (go_big_quiet_step ((fail)))
  refine wpQuiet_nil ?_
  intro w5 hw5
  obtain ⟨x5, rfl⟩ := hw5
  have hb5 := x5.prop
  generalize x5.val = w5 at *
  go_wp2
  go_ret
  exact ⟨rfl, hb5⟩
end Go.Proofs.YtgjlcjbmcnofiaaDoor
