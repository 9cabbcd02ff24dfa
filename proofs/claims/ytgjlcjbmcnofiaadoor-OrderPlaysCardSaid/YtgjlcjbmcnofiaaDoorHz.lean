/-
  A horizon: its cells, count, Came, Promise, Reached, All, Safe, New.
  Conditions: those that each theorem names.
-/
import Derived.Test.YtgjlcjbmcnofiaaDoorDels
import Derived.Test.YtgjlcjbmcnofiaaDoorSets
import Derived.Test.YtgjlcjbmcnofiaaDoorHoldFH
import Derived.Lib.OwnKind
import Derived.Deep.CutBlock
namespace Go.Proofs.YtgjlcjbmcnofiaaDoor
set_option linter.unusedVariables false
set_option linter.unusedSimpArgs false
open Go.RowKit
/-- a horizon, in plain: its clock, the others; heard, reached, came, the promises that wait, by members -/
structure HZ where
  c : Nat
  o : Nat
  hd : Nat → Nat
  rc : Nat → Nat
  cm : Nat → Nat
  wt : Nat → List (Nat × Nat)
def hzF (H : HZ) (V : Nat → Value) (i : Nat) : Value :=
  if i = 0 then .int .u64 (H.c : Int) else if i = 1 then .int .u64 (H.o : Int) else
  if (i - 2) % 4 = 0 then .int .u64 (H.hd ((i - 2) / 4) : Int) else if (i - 2) % 4 = 1 then .int .u64 (H.rc ((i - 2) / 4) : Int) else if (i - 2) % 4 = 2 then .int .u32 (H.cm ((i - 2) / 4) : Int) else V ((i - 2) / 4)
def hzC (H : HZ) (V : Nat → Value) : Array Value := ((List.range 258).map (hzF H V)).toArray
theorem hzC_size (H : HZ) (V : Nat → Value) : (hzC H V).size = 258 := by simp [hzC]
theorem hzC_get (H : HZ) (V : Nat → Value) {i : Nat} (hi : i < 258) : (hzC H V)[i]? = some (hzF H V i) := by
  unfold hzC
  simp [List.getElem?_range hi]
theorem hzC_set {H H' : HZ} {V V' : Nat → Value} {j : Nat} {v : Value} (h : ∀ i, i < 258 → (if i = j then v else hzF H V i) = hzF H' V' i) : (hzC H V).setIfInBounds j v = hzC H' V' := by
  apply Array.ext_getElem?
  intro i
  by_cases hi : i < 258
  · rw [hzC_get H' V' hi, ← h i hi]
    by_cases hij : i = j
    · subst hij
      rw [if_pos rfl, Array.getElem?_setIfInBounds_self_of_lt (by rw [hzC_size]; exact hi)]
    · rw [if_neg hij, Array.getElem?_setIfInBounds_ne (fun e => hij e.symm), hzC_get H V hi]
  · rw [Array.getElem?_eq_none (by rw [Array.size_setIfInBounds, hzC_size]; omega), Array.getElem?_eq_none (by rw [hzC_size]; omega)]
theorem hzF_hd (H : HZ) (V : Nat → Value) (p : Nat) : hzF H V (2 + p * 4) = .int .u64 (H.hd p : Int) := by
  unfold hzF
  rw [if_neg (by omega), if_neg (by omega), if_pos (by omega), show (2 + p * 4 - 2) / 4 = p by omega]
theorem hzF_rc (H : HZ) (V : Nat → Value) (p : Nat) : hzF H V (2 + p * 4 + 1) = .int .u64 (H.rc p : Int) := by
  unfold hzF
  rw [if_neg (by omega), if_neg (by omega), if_neg (by omega), if_pos (by omega), show (2 + p * 4 + 1 - 2) / 4 = p by omega]
theorem hzF_cm (H : HZ) (V : Nat → Value) (p : Nat) : hzF H V (2 + p * 4 + 2) = .int .u32 (H.cm p : Int) := by
  unfold hzF
  rw [if_neg (by omega), if_neg (by omega), if_neg (by omega), if_neg (by omega), if_pos (by omega), show (2 + p * 4 + 2 - 2) / 4 = p by omega]
theorem hzF_wt (H : HZ) (V : Nat → Value) (p : Nat) : hzF H V (2 + p * 4 + 3) = V p := by
  unfold hzF
  rw [if_neg (by omega), if_neg (by omega), if_neg (by omega), if_neg (by omega), if_neg (by omega), show (2 + p * 4 + 3 - 2) / 4 = p by omega]
/-- one cell changes -/
def HZ.setC (H : HZ) (x : Nat) : HZ := { H with c := x }
def HZ.setHd (H : HZ) (p x : Nat) : HZ := { H with hd := upd H.hd p x }
def HZ.setRc (H : HZ) (p x : Nat) : HZ := { H with rc := upd H.rc p x }
def HZ.setCm (H : HZ) (p x : Nat) : HZ := { H with cm := upd H.cm p x }
def HZ.setWt (H : HZ) (p : Nat) (x : List (Nat × Nat)) : HZ := { H with wt := upd H.wt p x }
theorem hzC_c (H : HZ) (V : Nat → Value) (x : Nat) : (hzC H V).setIfInBounds 0 (.int .u64 (x : Int)) = hzC (H.setC x) V := hzC_set fun i _ => by
  by_cases h : i = 0
  · subst h; rfl
  · rw [if_neg h]; unfold hzF HZ.setC; simp only [if_neg h]
theorem hzC_hd (H : HZ) (V : Nat → Value) (p x : Nat) : (hzC H V).setIfInBounds (2 + p * 4) (.int .u64 (x : Int)) = hzC (H.setHd p x) V := hzC_set fun i _ => by
  by_cases h : i = 2 + p * 4
  · subst h; rw [if_pos rfl, hzF_hd]; unfold HZ.setHd; simp only [upd_same]
  · rw [if_neg h]; unfold hzF HZ.setHd
    by_cases h0 : i = 0
    · simp [h0]
    · by_cases h1 : i = 1
      · simp [h1]
      · by_cases h2 : (i - 2) % 4 = 0
        · simp only [if_neg h0, if_neg h1, if_pos h2]; rw [upd_ne _ _ (by omega)]
        · simp only [if_neg h0, if_neg h1, if_neg h2]
theorem hzC_rc (H : HZ) (V : Nat → Value) (p x : Nat) : (hzC H V).setIfInBounds (2 + p * 4 + 1) (.int .u64 (x : Int)) = hzC (H.setRc p x) V := hzC_set fun i _ => by
  by_cases h : i = 2 + p * 4 + 1
  · subst h; rw [if_pos rfl, hzF_rc]; unfold HZ.setRc; simp only [upd_same]
  · rw [if_neg h]; unfold hzF HZ.setRc
    by_cases h0 : i = 0
    · simp [h0]
    · by_cases h1 : i = 1
      · simp [h1]
      · by_cases h2 : (i - 2) % 4 = 0
        · simp only [if_neg h0, if_neg h1, if_pos h2]
        · by_cases h3 : (i - 2) % 4 = 1
          · simp only [if_neg h0, if_neg h1, if_neg h2, if_pos h3]; rw [upd_ne _ _ (by omega)]
          · simp only [if_neg h0, if_neg h1, if_neg h2, if_neg h3]
theorem hzC_cm (H : HZ) (V : Nat → Value) (p x : Nat) : (hzC H V).setIfInBounds (2 + p * 4 + 2) (.int .u32 (x : Int)) = hzC (H.setCm p x) V := hzC_set fun i _ => by
  by_cases h : i = 2 + p * 4 + 2
  · subst h; rw [if_pos rfl, hzF_cm]; unfold HZ.setCm; simp only [upd_same]
  · rw [if_neg h]; unfold hzF HZ.setCm
    by_cases h0 : i = 0
    · simp [h0]
    · by_cases h1 : i = 1
      · simp [h1]
      · by_cases h2 : (i - 2) % 4 = 0
        · simp only [if_neg h0, if_neg h1, if_pos h2]
        · by_cases h3 : (i - 2) % 4 = 1
          · simp only [if_neg h0, if_neg h1, if_neg h2, if_pos h3]
          · by_cases h4 : (i - 2) % 4 = 2
            · simp only [if_neg h0, if_neg h1, if_neg h2, if_neg h3, if_pos h4]; rw [upd_ne _ _ (by omega)]
            · simp only [if_neg h0, if_neg h1, if_neg h2, if_neg h3, if_neg h4]
theorem hzC_wt (H : HZ) (V : Nat → Value) (p : Nat) (x : List (Nat × Nat)) (v : Value) : (hzC H V).setIfInBounds (2 + p * 4 + 3) v = hzC (H.setWt p x) (upd V p v) := hzC_set fun i _ => by
  by_cases h : i = 2 + p * 4 + 3
  · subst h; rw [if_pos rfl, hzF_wt]; simp only [upd_same]
  · rw [if_neg h]; unfold hzF HZ.setWt
    by_cases h0 : i = 0
    · simp [h0]
    · by_cases h1 : i = 1
      · simp [h1]
      · by_cases h2 : (i - 2) % 4 = 0
        · simp only [if_neg h0, if_neg h1, if_pos h2]
        · by_cases h3 : (i - 2) % 4 = 1
          · simp only [if_neg h0, if_neg h1, if_neg h2, if_pos h3]
          · by_cases h4 : (i - 2) % 4 = 2
            · simp only [if_neg h0, if_neg h1, if_neg h2, if_neg h3, if_pos h4]
            · simp only [if_neg h0, if_neg h1, if_neg h2, if_neg h3, if_neg h4]; rw [upd_ne _ _ (by omega)]
/-- block Z is a horizon; V: the slices that hold its promises -/
structure HzAt (w : World) (Z : Nat) (H : HZ) (V : Nat → Value) : Prop where
  blk : w.heap[Z]? = some (.cells (hzC H V) 108 (0, 0))
  own : ∀ p, p < 64 → w.ownsRow 0 111 2 (V p) (H.wt p).length (enL enP (H.wt p))
  apart : ∀ p q b, p < 64 → q < 64 → p ≠ q → (V p).ownBlock = some b → (V q).ownBlock ≠ some b
/-- the blocks that a horizon writes -/
def hzS (Z : Nat) (V : Nat → Value) (b : Nat) : Prop := b = Z ∨ ∃ p, p < 64 ∧ (V p).ownBlock = some b
section
variable {w w' : World} {Z : Nat} {H : HZ} {V : Nat → Value}
theorem HzAt.lt (h : HzAt w Z H V) : Z < w.heap.size := (Array.getElem?_eq_some_iff.1 h.blk).1
theorem HzAt.kept {S : Nat → Prop} (h : HzAt w Z H V) (hk : Kept S w w') (hs : ∀ b, hzS Z V b → ¬ S b) : HzAt w' Z H V :=
  ⟨hk.keep h.blk (hs Z (.inl rfl)), fun p hp => own_keptS (h.own p hp) hk (fun b hb => hs b (.inr ⟨p, hp, hb⟩)), h.apart⟩
theorem HzAt.below (h : HzAt w Z H V) (hb : Below w.heap.size w w') : HzAt w' Z H V := h.kept (S := fun _ => False) (.of_below hb) (fun _ _ h => h)
theorem HzAt.cell (h : HzAt w Z H V) {i : Nat} (hi : i < 258) : w.cell? ⟨Z, i, none⟩ = some (hzF H V i) := (cell_of_row _ _ i _ _ _ h.blk).trans (hzC_get H V hi)
theorem HzAt.free (h : HzAt w Z H V) (i : Nat) : w.frozen? ⟨Z, i, none⟩ = false := frozen_of_row _ _ _ _ _ h.blk
theorem HzAt.cc (h : HzAt w Z H V) : w.cell? ⟨Z, 0, none⟩ = some (.int .u64 (H.c : Int)) := h.cell (i := 0) (by decide)
theorem HzAt.co (h : HzAt w Z H V) : w.cell? ⟨Z, 1, none⟩ = some (.int .u64 (H.o : Int)) := h.cell (i := 1) (by decide)
theorem HzAt.chd (h : HzAt w Z H V) {p : Nat} (hp : p < 64) : w.cell? ⟨Z, 2 + p * 4, none⟩ = some (.int .u64 (H.hd p : Int)) := (h.cell (by omega)).trans (congrArg some (hzF_hd H V p))
theorem HzAt.crc (h : HzAt w Z H V) {p : Nat} (hp : p < 64) : w.cell? ⟨Z, 2 + p * 4 + 1, none⟩ = some (.int .u64 (H.rc p : Int)) := (h.cell (by omega)).trans (congrArg some (hzF_rc H V p))
theorem HzAt.ccm (h : HzAt w Z H V) {p : Nat} (hp : p < 64) : w.cell? ⟨Z, 2 + p * 4 + 2, none⟩ = some (.int .u32 (H.cm p : Int)) := (h.cell (by omega)).trans (congrArg some (hzF_cm H V p))
theorem HzAt.cwt (h : HzAt w Z H V) {p : Nat} (hp : p < 64) : w.cell? ⟨Z, 2 + p * 4 + 3, none⟩ = some (V p) := (h.cell (by omega)).trans (congrArg some (hzF_wt H V p))
theorem HzAt.form (h : HzAt w Z H V) {p : Nat} (hp : p < 64) : ∃ ad cap, V p = .slice ad (H.wt p).length cap := ownForm (h.own p hp)
theorem HzAt.ne (h : HzAt w Z H V) {p : Nat} (hp : p < 64) : (V p).ownBlock ≠ some Z := fun e => by
  obtain ⟨c, fz, hc⟩ := Lib.ownsRow_kind (h.own p hp) Z e
  rw [h.blk] at hc
  injection hc with hc
  injection hc with _ hc _
  exact absurd hc (by decide)
/-- a cell of the block is set -/
theorem HzAt.set (h : HzAt w Z H V) {H' : HZ} {i : Nat} {v : Value} (hc : (hzC H V).setIfInBounds i v = hzC H' V) (hw : H'.wt = H.wt) : HzAt (w.setCell ⟨Z, i, none⟩ v) Z H' V := by
  have hk : Kept (fun b => b = Z) w (w.setCell ⟨Z, i, none⟩ v) := (Kept.refl (fun b => b = Z) w).setCell (p := ⟨Z, i, none⟩) rfl v
  refine ⟨by rw [setCell_block h.blk i v, hc], fun p hp => ?_, h.apart⟩
  rw [hw]
  exact own_keptS (h.own p hp) hk (fun b hb e => h.ne hp (by rw [← e]; exact hb))
theorem kept_set (w : World) (Z i : Nat) (v : Value) : Kept (fun b => b = Z) w (w.setCell ⟨Z, i, none⟩ v) := (Kept.refl (fun b => b = Z) w).setCell (p := ⟨Z, i, none⟩) rfl v
end
/-- what a horizon's step leaves -/
def HzEnd (w : World) (Z : Nat) (V : Nat → Value) (H' : HZ) (e : Ending) (w' : World) : Prop := e = .returned (.tuple #[]) ∧ Kept (hzS Z V) w w' ∧ ∃ V', HzAt w' Z H' V' ∧ newV w V V'
theorem newV_refl (w : World) (V : Nat → Value) : newV w V V := fun q _ b hb => .inl hb
theorem hzClock_any (Z : Nat) (H : HZ) (V : Nat → Value) (w : World) (h : HzAt w Z H V) : Calls Tryd.prog 27 #[.pointer (some ⟨Z, 0, none⟩)] w fun e w' => e = .returned (.int .u64 (H.c : Int)) ∧ w = w' := by
  have c0 := h.cc
  clear h
  generalize (H.c : Int) = c at *
  go_enter Tryd.func27, Tryd.ntmps27
  go_wp2
  go_ret
  exact ⟨rfl, rfl⟩
theorem hzSee_any (Z : Nat) (H : HZ) (V : Nat → Value) (s : Nat) (w : World) (h : HzAt w Z H V) : Calls Tryd.prog 36 #[.pointer (some ⟨Z, 0, none⟩), .int .u64 (s : Int)] w (HzEnd w Z V (H.setC (max H.c s))) := by
  have c0 := h.cc
  have f0 := h.free 0
  have HE := Lib.hid (show ∀ x : Nat, x = max H.c s → HzEnd w Z V (H.setC (max H.c s)) (.returned (.tuple #[])) (w.setCell ⟨Z, 0, none⟩ (.int .u64 (x : Int))) from fun x hx => by
    subst hx
    exact ⟨rfl, (kept_set w Z 0 _).more fun _ _ e => .inl e, V, h.set (hzC_c H V _) rfl, newV_refl w V⟩)
  obtain ⟨c, hc⟩ : ∃ c, c = H.c := ⟨_, rfl⟩
  rw [← hc] at c0 HE ⊢
  clear h hc
  go_enter Tryd.func36, Tryd.ntmps36
  go_wp2
  all_goals
    go_end0
    first
      | exact HE.out s (by omega)
      | exact HE.out c (by omega)
end Go.Proofs.YtgjlcjbmcnofiaaDoor
namespace Go.Proofs.YtgjlcjbmcnofiaaDoor
set_option linter.unusedVariables false
set_option linter.unusedSimpArgs false
open Go.RowKit
/-- a promise is asked -/
def askH (H : HZ) (p : Nat) (x : Nat × Nat) : HZ := if x.2 ≤ H.cm p then H.setHd p (max (H.hd p) x.1) else H
def HzBlk (w : World) (Z : Nat) (H : HZ) (V : Nat → Value) : Prop := w.heap[Z]? = some (.cells (hzC H V) 108 (0, 0))
theorem HzBlk.cell {w : World} {Z : Nat} {H : HZ} {V : Nat → Value} (h : HzBlk w Z H V) {i : Nat} (hi : i < 258) : w.cell? ⟨Z, i, none⟩ = some (hzF H V i) := (cell_of_row _ _ i _ _ _ h).trans (hzC_get H V hi)
set_option maxRecDepth 100000 in
set_option maxHeartbeats 4000000 in
theorem cntF_any (Z p bx : Nat) (H : HZ) (V : Nat → Value) (x : Nat × Nat) (w : World) (hp : p < 64) (hz : HzBlk w Z H V) (hbx : w.cell? ⟨bx, 0, none⟩ = some (.pointer (some ⟨Z, 2 + p * 4, none⟩))) :
    Calls Tryd.prog 76 #[.agg (enP x), .pointer (some ⟨bx, 0, none⟩)] w fun e w' => e = .returned (.bool (decide (x.2 ≤ H.cm p))) ∧ HzBlk w' Z (askH H p x) V ∧ Kept (fun b => b = Z) w w' := by
  obtain ⟨s, n⟩ := x
  obtain ⟨w1, hw1⟩ : ∃ w1, w1 = w.alloc (.cells (enP (s, n)) 111) := ⟨_, rfl⟩
  have hb1 : Below w.heap.size w w1 := by rw [hw1]; exact ba (br w) _
  have hx1 : w1.heap[w.heap.size]? = some (.cells (enP (s, n)) 111 (0, 0)) := by rw [hw1]; exact heap_alloc_new w _
  obtain ⟨X, hX⟩ : ∃ X, X = w.heap.size := ⟨_, rfl⟩
  rw [← hX] at hx1
  have hz1 : HzBlk w1 Z H V := (hb1.block _ (Array.getElem?_eq_some_iff.1 hz).1).trans hz
  have hZ1 : Z < w1.heap.size := (Array.getElem?_eq_some_iff.1 hz1).1
  have hX1 : X < w1.heap.size := (Array.getElem?_eq_some_iff.1 hx1).1
  have hbl := cell_lt hbx
  have b1 := Bel.cell (show w1.cell? ⟨bx, 0, none⟩ = some (.pointer (some ⟨Z, 2 + p * 4, none⟩)) from (hb1.cell hbl).trans hbx) (Nat.lt_of_lt_of_le hbl hb1.size)
  have e0 := Bel.cell (show w1.cell? ⟨X, 0, none⟩ = some (.int .u64 (s : Int)) from cell_of_row _ _ 0 _ _ _ hx1) hX1
  have e1 := Bel.cell (show w1.cell? ⟨X, 1, none⟩ = some (.int .u32 (n : Int)) from cell_of_row _ _ 1 _ _ _ hx1) hX1
  have z0 := Bel.cell (show w1.cell? ⟨Z, 2 + p * 4, none⟩ = some (.int .u64 (H.hd p : Int)) from (hz1.cell (by omega)).trans (congrArg some (hzF_hd H V p))) hZ1
  have z2 := Bel.cell (show w1.cell? ⟨Z, 2 + p * 4 + 2, none⟩ = some (.int .u32 (H.cm p : Int)) from (hz1.cell (by omega)).trans (congrArg some (hzF_cm H V p))) hZ1
  have HB := Lib.hid (And.intro hb1 hz1)
  obtain ⟨cm, hcm⟩ : ∃ cm, cm = H.cm p := ⟨_, rfl⟩
  obtain ⟨hd, hhd⟩ : ∃ hd, hd = H.hd p := ⟨_, rfl⟩
  have HA := Lib.hid (show askH H p (s, n) = if n ≤ cm then H.setHd p (max hd s) else H from by rw [hcm, hhd]; rfl)
  rw [← hcm] at z2 ⊢
  rw [← hhd] at z0
  have HX := Lib.hid hX
  have HW1 := Lib.hid hw1
  show Calls Tryd.prog 76 #[.agg #[.int .u64 (s : Int), .int .u32 (n : Int)], .pointer (some ⟨bx, 0, none⟩)] w fun e w' => e = .returned (.bool (decide (n ≤ cm))) ∧ HzBlk w' Z (askH H p (s, n)) V ∧ Kept (fun b => b = Z) w w'
  have hen : enP (s, n) = #[.int .u64 (s : Int), .int .u32 (n : Int)] := rfl
  rw [hen] at HW1
  clear hz hbx hw1 hb1 hx1 hX hz1 hZ1 hX1 hbl hcm hhd hen
  by_cases hnc : n ≤ cm
  · have d0 : decide ((cm : Int) < (n : Int)) = false := by simp; omega
    rw [decide_eq_true hnc]
    rw [if_pos hnc] at HA
    go_enter Tryd.func76, Tryd.ntmps76
    go_upto_region 1 with (fail)
    rw [← HW1.out, ← HX.out]
    refine wp_region_bel (by kernel_rfl) (by kernel_rfl) ?_
    repeat (go_big_quiet_step ((fail)))
    refine wpQuiet_nil ?_
    intro w2 hw2
    have hb2 := bel_out hw2
    have e0 : ∀ y : Bel w2, y.val.cell? ⟨X, 0, none⟩ = _ := fun y => e0 ⟨y.val, bt hb2 y.prop⟩
    have b1 : ∀ y : Bel w2, y.val.cell? ⟨bx, 0, none⟩ = _ := fun y => b1 ⟨y.val, bt hb2 y.prop⟩
    have z0 : ∀ y : Bel w2, y.val.cell? ⟨Z, 2 + p * 4, none⟩ = _ := fun y => z0 ⟨y.val, bt hb2 y.prop⟩
    have HB2 := Lib.hid (And.intro (bt HB.out.1 hb2) (show HzBlk w2 Z H V from (hb2.block _ (Array.getElem?_eq_some_iff.1 HB.out.2).1).trans HB.out.2))
    clear hw2 hb2 e1 z2
    go_upto_region 3 with (fail)
    refine wp_region_bel_tail 8 (by kernel_rfl) (by kernel_rfl) ?_
    simp only [List.take_succ_cons, List.take_zero, List.drop_succ_cons, List.drop_zero]
    repeat (go_big_quiet_step ((fail)))
    refine wpQuiet_nil ?_
    intro w3 hw3
    have hb3 := bt HB2.out.1 (bel_out hw3)
    have hz3 : HzBlk w3 Z H V := ((bel_out hw3).block _ (Array.getElem?_eq_some_iff.1 HB2.out.2).1).trans HB2.out.2
    have f3 : w3.frozen? ⟨Z, 2 + p * 4, none⟩ = false := frozen_of_row _ _ _ _ _ hz3
    have g3 : w3.cell? ⟨Z, 2 + p * 4, none⟩ = some (.int .u64 (hd : Int)) := z0 ⟨w2, br w2⟩ |> fun h => ((bel_out hw3).cell (p := ⟨Z, 2 + p * 4, none⟩) (Array.getElem?_eq_some_iff.1 HB2.out.2).1).trans h
    have HE := Lib.hid (show HzBlk (w3.setCell ⟨Z, 2 + p * 4, none⟩ (.int .u64 ((max hd s : Nat) : Int))) Z (askH H p (s, n)) V ∧ Kept (fun b => b = Z) w (w3.setCell ⟨Z, 2 + p * 4, none⟩ (.int .u64 ((max hd s : Nat) : Int))) from by
      rw [HA.out]
      refine ⟨?_, (Kept.of_below hb3).trans (kept_set w3 Z _ _)⟩
      unfold HzBlk
      rw [setCell_block hz3, hzC_hd])
    have hmx : (if hd < s then (s : Int) else (hd : Int)) = ((max hd s : Nat) : Int) := by
      split <;> omega
    rw [hmx]
    clear hw3 hb3 hz3 z0 b1 e0 hmx
    generalize ((max hd s : Nat) : Int) = mx at *
    go_wp2_with fail
    go_ret
    exact ⟨rfl, HE.out⟩
  · have d0 : decide ((cm : Int) < (n : Int)) = true := by simp; omega
    rw [decide_eq_false hnc]
    rw [if_neg hnc] at HA
    go_enter Tryd.func76, Tryd.ntmps76
    go_upto_region 1 with (fail)
    rw [← HW1.out, ← HX.out]
    refine wp_region_bel (by kernel_rfl) (by kernel_rfl) ?_
    repeat (go_big_quiet_step ((fail)))
    refine wpQuiet_nil ?_
    intro w2 hw2
    have hb2 := bt HB.out.1 (bel_out hw2)
    have HE := Lib.hid (show HzBlk w2 Z (askH H p (s, n)) V ∧ Kept (fun b => b = Z) w w2 from by
      rw [HA.out]
      exact ⟨((bel_out hw2).block _ (Array.getElem?_eq_some_iff.1 HB.out.2).1).trans HB.out.2, Kept.of_below hb2⟩)
    clear hw2 hb2 e0 e1 z0 z2 b1
    go_wp2_with fail
    go_ret
    exact ⟨rfl, HE.out⟩
/-- a member's row is set anew -/
theorem HzAt.row {w w3 : World} {Z p : Nat} {H H1 : HZ} {V : Nat → Value} {v' : Value} {l : List (Nat × Nat)} (h : HzAt w Z H V) (hp : p < 64) (hk : Kept (fun b => b = Z ∨ (V p).ownBlock = some b) w w3) (hb : HzBlk w3 Z H1 V) (hw : H1.wt = H.wt)
    (ho : w3.ownsRow 0 111 2 v' l.length (enL enP l)) (hn : ∀ b, v'.ownBlock = some b → (V p).ownBlock = some b ∨ w.heap.size ≤ b) :
    HzAt (w3.setCell ⟨Z, 2 + p * 4 + 3, none⟩ v') Z (H1.setWt p l) (upd V p v') ∧ newV w V (upd V p v') ∧ Kept (hzS Z V) w (w3.setCell ⟨Z, 2 + p * 4 + 3, none⟩ v') := by
  have hks := kept_set w3 Z (2 + p * 4 + 3) v'
  have hZ := h.lt
  have hnew : newV w V (upd V p v') := newV_upd hn
  have hpz : v'.ownBlock ≠ some Z := fun e => by
    rcases hn Z e with e | e
    · exact h.ne hp e
    · omega
  refine ⟨⟨?_, fun q hq => ?_, fun q r b hq hr hqr hb1 hb2 => ?_⟩, hnew, (hk.more fun b _ e => ?_).trans (hks.more fun b _ e => .inl e)⟩
  · have := setCell_block hb (2 + p * 4 + 3) v'
    rw [hzC_wt H1 V p l v'] at this
    exact this
  · by_cases hqp : q = p
    · subst hqp
      rw [upd_same, show (H1.setWt q l).wt q = l from by unfold HZ.setWt; exact upd_same _ _ _]
      exact own_keptS ho hks (fun b hb e => hpz (by rw [← e]; exact hb))
    · rw [upd_ne _ _ hqp, show (H1.setWt p l).wt q = H.wt q from by unfold HZ.setWt; rw [← hw]; exact upd_ne _ _ hqp]
      exact own_keptS (own_keptS (h.own q hq) hk (fun b hb e => by
        rcases e with e | e
        · exact h.ne hq (by rw [← e]; exact hb)
        · exact h.apart q p b hq hp hqp hb e)) hks (fun b hb e => h.ne hq (by rw [← e]; exact hb))
  · have key : ∀ q, q < 64 → q ≠ p → ∀ b, (V q).ownBlock = some b → v'.ownBlock ≠ some b := fun q hq hqp b hb e => by
      rcases hn b e with e | e
      · exact h.apart q p b hq hp hqp hb e
      · have := ((h.own q hq).lt b hb).2
        omega
    by_cases hqp : q = p
    · subst hqp
      rw [upd_same] at hb1
      rw [upd_ne _ _ (fun e => hqr e.symm)] at hb2
      exact key r hr (fun e => hqr e.symm) b hb2 hb1
    · rw [upd_ne _ _ hqp] at hb1
      by_cases hrp : r = p
      · subst hrp
        rw [upd_same] at hb2
        exact key q hq hqp b hb1 hb2
      · rw [upd_ne _ _ hrp] at hb2
        exact h.apart q r b hq hr hqr hb1 hb2
  · rcases e with e | e
    · exact .inl e
    · exact .inr ⟨p, hp, e⟩
def askL (H : HZ) (p : Nat) (l : List (Nat × Nat)) : HZ := l.foldl (fun H x => askH H p x) H
theorem askH_cm (H : HZ) (p : Nat) (x : Nat × Nat) : (askH H p x).cm = H.cm ∧ (askH H p x).wt = H.wt := by
  unfold askH
  split <;> exact ⟨rfl, rfl⟩
theorem askL_cm : ∀ (l : List (Nat × Nat)) (H : HZ) (p : Nat), (askL H p l).cm = H.cm ∧ (askL H p l).wt = H.wt
  | [], H, p => ⟨rfl, rfl⟩
  | x :: l, H, p => by
    have h1 := askL_cm l (askH H p x) p
    have h2 := askH_cm H p x
    exact ⟨h1.1.trans h2.1, h1.2.trans h2.2⟩
/-- those that may, count -/
def HZ.count (H : HZ) (p : Nat) : HZ := (askL H p (H.wt p)).setWt p ((H.wt p).filter fun x => !decide (x.2 ≤ H.cm p))
theorem kept_drew (w : World) (S : Nat → Prop) : Kept S w w.drew := (Kept.refl S w).drew
set_option maxRecDepth 100000 in
set_option maxHeartbeats 4000000 in
theorem hzCount_any (Z p : Nat) (H : HZ) (V : Nat → Value) (w : World) (h : HzAt w Z H V) (hp : p < 64) (hl : (H.wt p).length ≤ 1000000) :
    Calls Tryd.prog 50 #[.pointer (some ⟨Z, 2 + p * 4, none⟩)] w (HzEnd w Z V (H.count p)) := by
  obtain ⟨ad, cap, hv⟩ := h.form hp
  obtain ⟨w1, hw1⟩ : ∃ w1, w1 = w.alloc (.cells #[.pointer (some ⟨Z, 2 + p * 4, none⟩)] 109) := ⟨_, rfl⟩
  have hb1 : Below w.heap.size w w1 := by rw [hw1]; exact ba (br w) _
  have hx1 : w1.heap[w.heap.size]? = some (.cells #[.pointer (some ⟨Z, 2 + p * 4, none⟩)] 109 (0, 0)) := by rw [hw1]; exact heap_alloc_new w _
  obtain ⟨X, hX⟩ : ∃ X, X = w.heap.size := ⟨_, rfl⟩
  rw [← hX] at hx1
  have HX := Lib.hid hX
  have HW1 := Lib.hid hw1
  have h1 := h.below hb1
  obtain ⟨n, hn⟩ : ∃ n, n = (H.wt p).length := ⟨_, rfl⟩
  have hw2 : Below w.heap.size w w1.drew := hb1.drew
  have h2 : HzAt w1.drew Z H V := h1.below ((br w1).drew)
  have hX2 : w1.drew.heap[X]? = some (.cells #[.pointer (some ⟨Z, 2 + p * 4, none⟩)] 109 (0, 0)) := hx1
  have hS0 : w1.drew.cell? ⟨X, 0, none⟩ = some (.pointer (some ⟨Z, 2 + p * 4, none⟩)) ∧ w1.drew.cell? ⟨Z, 2 + p * 4 + 3, none⟩ = some (.slice ad n cap) := ⟨cell_of_row _ _ 0 _ _ _ hX2, by rw [h2.cwt hp, hv, hn]⟩
  have HC := Lib.hid (delP_any (H.wt p) ad cap (fun x => decide (x.2 ≤ H.cm p)) (fun j w => HzBlk w Z (askL H p ((H.wt p).take j)) V ∧ w.heap[X]? = some (.cells #[.pointer (some ⟨Z, 2 + p * 4, none⟩)] 109 (0, 0))) (fun b => b = Z) X w1.drew hl
    (by have := h2.own p hp; rw [hv] at this; exact this) (fun b e => by rw [e]; exact h2.lt) (fun b e e2 => h2.ne hp (by rw [hv, ← e2]; exact e)) ⟨h2.blk, hX2⟩
    (fun i w1 w2 ⟨i1, i2⟩ hk => by
      refine ⟨hk.keep i1 (fun e => h2.ne hp (by rw [hv]; exact e)), hk.keep i2 (fun e => ?_)⟩
      obtain ⟨c, fz, hc⟩ := Lib.ownsRow_kind (h2.own p hp) X (by rw [hv]; exact e)
      rw [hX2] at hc
      injection hc with hc
      injection hc with _ hc _
      exact absurd hc (by decide))
    (fun i hi w1 ⟨i1, i2⟩ hk => by
      have hc := cntF_any Z p X (askL H p ((H.wt p).take i)) V (H.wt p)[i] w1 hp i1 (cell_of_row _ _ 0 _ _ _ i2)
      rw [(askL_cm _ H p).1] at hc
      refine hc.mono fun e w' ⟨e1, e2, e3⟩ => ⟨e1, ⟨?_, e3.keep i2 (fun e => ?_)⟩, e3⟩
      · rw [List.take_succ_eq_append_getElem hi]
        unfold askL
        rw [List.foldl_append]
        exact e2
      · have h3 := h.lt
        have h4 := HX.out
        omega))
  rw [← hn] at HC
  have H2 := Lib.hid (And.intro hw2 h2)
  have H0 := Lib.hid (And.intro h (And.intro hp (And.intro hv hn)))
  clear hw1 hb1 hx1 hX h1 hw2 h2 hX2 h hv hl hn
  go_enter Tryd.func50, Tryd.ntmps50
  go_upto_region 1 with (fail)
  rw [← HW1.out, ← HX.out]
  refine wp_region_mask (fun w' => w'.cell? ⟨X, 0, none⟩ = some (.pointer (some ⟨Z, 2 + p * 4, none⟩)) ∧ w'.cell? ⟨Z, 2 + p * 4 + 3, none⟩ = some (.slice ad n cap)) 7 4 [true, true, true, true, true, true, false, false, false, false] #[true, true, true, true, true, true, false, false, false, false] (by kernel_rfl) (by kernel_rfl) (by kernel_rfl) hS0 ?_
  clear hS0
  generalize w1.drew = W at *
  iterate 6
    refine wpMask_take _ (Or.inl ⟨by rfl, fun w' hS => by (try dsimp only at hS); obtain ⟨hS1, hS2⟩ := hS; go_simp; try with_reducible rfl⟩) ?_
    simp only [Act.put, List.setIfInBounds_toArray, List.set_cons_zero, List.set_cons_succ]
  refine wpMask_skip (wpMask_skip (wpMask_skip (wpMask_skip (wpMask_nil ?_))))
  refine wpAnyS_ready (rs := [6]) (by kernel_rfl) (by simp) ?_
  refine AllReadyS.cons rfl (fun K hK => ?_) AllReadyS.nil
  go_simp
  refine HC.out.mono ?_
  rintro e w3 ⟨rfl, ho3, ⟨hz3, hx3⟩, hk3⟩
  have f3 : w3.frozen? ⟨Z, 2 + p * 4 + 3, none⟩ = false := frozen_of_row _ _ _ _ _ hz3
  have g3 : w3.cell? ⟨Z, 2 + p * 4 + 3, none⟩ = some (.slice ad n cap) := by
    have := hz3.cell (i := 2 + p * 4 + 3) (by have := H0.out.2.1; omega)
    rw [this, hzF_wt, H0.out.2.2.1, H0.out.2.2.2]
  have HS3 := Lib.hid (show w3.cell? ⟨X, 0, none⟩ = some (.pointer (some ⟨Z, 2 + p * 4, none⟩)) ∧ w3.cell? ⟨Z, 2 + p * 4 + 3, none⟩ = some (.slice ad n cap) from ⟨cell_of_row _ _ 0 _ _ _ hx3, g3⟩)
  refine hK.out _ _ (fun h => HS3.out) ?_
  clear hK K
  simp only [Act.put, List.getElem_toArray, List.getElem_cons_succ, List.getElem_cons_zero, List.setIfInBounds_toArray, List.set_cons_zero, List.set_cons_succ]
  have hfin := HzAt.row (v' := .slice ad ((H.wt p).filter fun x => !decide (x.2 ≤ H.cm p)).length cap) (l := (H.wt p).filter fun x => !decide (x.2 ≤ H.cm p)) H0.out.1 H0.out.2.1
    ((Kept.of_below H2.out.1).trans (hk3.more fun b _ e => by
      rcases e with e | e
      · exact .inl e
      · exact .inr (by rw [H0.out.2.2.1]; exact e))) hz3 (by rw [List.take_of_length_le (Nat.le_refl _)]; exact (askL_cm _ H p).2) ho3 (fun b e => .inl (by rw [H0.out.2.2.1]; cases ad with
      | none => cases e
      | some a => exact e))
  have HE := Lib.hid (show HzEnd w Z V (H.count p) (.returned (.tuple #[])) (w3.setCell ⟨Z, 2 + p * 4 + 3, none⟩ (.slice ad ((H.wt p).filter fun x => !decide (x.2 ≤ H.cm p)).length cap)) from by
    obtain ⟨q1, q2, q3⟩ := hfin
    rw [List.take_of_length_le (Nat.le_refl _)] at q1
    exact ⟨rfl, q3, _, q1, q2⟩)
  clear hfin ho3 hz3 hx3 hk3 HC
  generalize ((H.wt p).filter fun x => !decide (x.2 ≤ H.cm p)).length = m at *
  refine wpAnyS_ready (rs := [7]) (by kernel_rfl) (by simp) ?_
  refine AllReadyS.cons rfl (fun K hK => ?_) AllReadyS.nil
  go_simp
  refine hK.out _ _ (fun h => absurd h (by decide)) ?_
  clear hK K
  simp only [Act.put, List.getElem_toArray, List.getElem_cons_succ, List.getElem_cons_zero, List.setIfInBounds_toArray, List.set_cons_zero, List.set_cons_succ]
  refine wpAnyS_ready (rs := [8]) (by kernel_rfl) (by simp) ?_
  refine AllReadyS.cons rfl (fun K hK => ?_) AllReadyS.nil
  go_simp
  refine hK.out _ _ (fun h => absurd h (by decide)) ?_
  clear hK K
  simp only [Act.put, List.getElem_toArray, List.getElem_cons_succ, List.getElem_cons_zero, List.setIfInBounds_toArray, List.set_cons_zero, List.set_cons_succ]
  refine wpAnyS_ready (rs := [9]) (by kernel_rfl) (by simp) ?_
  refine AllReadyS.cons rfl (fun K hK => ?_) AllReadyS.nil
  go_simp
  refine hK.out _ _ (fun h => absurd h (by decide)) ?_
  clear hK K
  simp only [Act.put, List.getElem_toArray, List.getElem_cons_succ, List.getElem_cons_zero, List.setIfInBounds_toArray, List.set_cons_zero, List.set_cons_succ]
  refine wpAnyS_done (by kernel_rfl) ?_ _
  go_wp2_with fail
  go_end0
  exact HE.out
end Go.Proofs.YtgjlcjbmcnofiaaDoor
namespace Go.Proofs.YtgjlcjbmcnofiaaDoor
set_option linter.unusedVariables false
set_option linter.unusedSimpArgs false
open Go.RowKit
structure HzOk (H : HZ) : Prop where
  o : H.o < 18446744073709551616
  wt : ∀ p, p < 64 → (H.wt p).length ≤ 100000
theorem hz_trans {w w1 w2 : World} {Z : Nat} {V V1 V2 : Nat → Value} (k1 : Kept (hzS Z V) w w1) (n1 : newV w V V1) (k2 : Kept (hzS Z V1) w1 w2) (n2 : newV w1 V1 V2) : Kept (hzS Z V) w w2 ∧ newV w V V2 := by
  have hs := k1.size
  refine ⟨⟨k2.os.trans k1.os, k2.tape.trans k1.tape, k2.output.trans k1.output, Nat.le_trans k1.size k2.size, fun i hi h => ?_⟩, fun q hq b hb => ?_⟩
  · refine (k2.block i (Nat.lt_of_lt_of_le hi hs) (fun e => ?_)).trans (k1.block i hi h)
    rcases e with e | ⟨p, hp, e⟩
    · exact h (.inl e)
    · rcases n1 p hp i e with e | e
      · exact h (.inr ⟨p, hp, e⟩)
      · omega
  · rcases n2 q hq b hb with e | e
    · exact n1 q hq b e
    · exact .inr (Nat.le_trans hs e)
theorem hasS_nat {o : Nat} {p : Int} (h : hasS o p = true) : p = (p.toNat : Int) ∧ p.toNat < 64 := by
  unfold hasS at h
  rw [Bool.and_eq_true, decide_eq_true_eq] at h
  omega
def HZ.came (H : HZ) (p : Int) (seq s : Nat) : HZ := if hasS H.o p = true then (((H.setC (max H.c s)).setCm p.toNat seq).setHd p.toNat (max (H.hd p.toNat) s)).count p.toNat else H
def HZ.promise (H : HZ) (p : Int) (s sent : Nat) : HZ := if hasS H.o p = true then ((H.setC (max H.c s)).setWt p.toNat (H.wt p.toNat ++ [(s, sent)])).count p.toNat else H
def HZ.reached (H : HZ) (p : Int) (s : Nat) : HZ := if hasS H.o p = true then H.setRc p.toNat (max (H.rc p.toNat) s) else H
theorem HzEnd.same {w : World} {Z : Nat} {H : HZ} {V : Nat → Value} (h : HzAt w Z H V) : HzEnd w Z V H (.returned (.tuple #[])) w := ⟨rfl, Kept.refl _ _, V, h, newV_refl w V⟩
theorem HzEnd.then {w w1 w2 : World} {Z : Nat} {V V1 : Nat → Value} {H2 : HZ} {e : Ending} (k1 : Kept (hzS Z V) w w1) (n1 : newV w V V1) (h : HzEnd w1 Z V1 H2 e w2) : HzEnd w Z V H2 e w2 := by
  obtain ⟨h1, k2, V2, h2, n2⟩ := h
  exact ⟨h1, (hz_trans k1 n1 k2 n2).1, V2, h2, (hz_trans k1 n1 k2 n2).2⟩
set_option maxRecDepth 100000 in
set_option maxHeartbeats 4000000 in
theorem hzReached_any (Z : Nat) (H : HZ) (V : Nat → Value) (p : Int) (s : Nat) (w : World) (h : HzAt w Z H V) (ho : H.o < 18446744073709551616) :
    Calls Tryd.prog 19 #[.pointer (some ⟨Z, 0, none⟩), .int .i64 p, .int .u64 (s : Int)] w (HzEnd w Z V (H.reached p s)) := by
  have c1 := h.co
  have HS := Lib.hid (setHas_any H.o p ho w)
  have HH := Lib.hid h
  by_cases hh : hasS H.o p = true
  · obtain ⟨hp1, hp2⟩ := hasS_nat hh
    have HE := Lib.hid (show ∀ w', Below w.heap.size w w' → ∀ x : Nat, x = max (H.rc p.toNat) s → HzEnd w Z V (H.reached p s) (.returned (.tuple #[])) (w'.setCell ⟨Z, 2 + p.toNat * 4 + 1, none⟩ (.int .u64 (x : Int))) from fun w' hb x hx => by
      unfold HZ.reached
      rw [if_pos hh, hx]
      have h' := h.below hb
      exact ⟨rfl, (Kept.of_below hb).trans ((kept_set w' Z _ _).more fun _ _ e => .inl e), V, h'.set (hzC_rc H V _ _) rfl, newV_refl w V⟩)
    obtain ⟨q, hq⟩ : ∃ q, q = p.toNat := ⟨_, rfl⟩
    rw [← hq] at hp1 hp2 HE
    subst hp1
    have c2 : ∀ y : Bel w, y.val.cell? ⟨Z, 2 + q * 4 + 1, none⟩ = some (.int .u64 (H.rc q : Int)) := Bel.cell (h.crc hp2) h.lt
    obtain ⟨rq, hrq⟩ : ∃ r, r = H.rc q := ⟨_, rfl⟩
    rw [← hrq] at c2 HE
    rw [hh] at HS
    have hq64 : (q : Int) < 64 := by omega
    clear h hh hq hrq
    go_enter Tryd.func19, Tryd.ntmps19
    go_wp2_with fail
    refine HS.out.mono ?_
    rintro e w' ⟨rfl, rfl⟩
    go_upto_region 1 with (fail)
    refine wp_region_bel_tail 13 (by kernel_rfl) (by kernel_rfl) ?_
    simp only [List.take_succ_cons, List.take_zero, List.drop_succ_cons, List.drop_zero]
    repeat (go_big_quiet_step ((fail)))
    refine wpQuiet_nil ?_
    intro w3 hw3
    have hb3 := bel_out hw3
    have h3 := HH.out.below hb3
    have f3 : w3.frozen? ⟨Z, 2 + q * 4 + 1, none⟩ = false := h3.free _
    have g3 : w3.cell? ⟨Z, 2 + q * 4 + 1, none⟩ = some (.int .u64 (rq : Int)) := c2 ⟨w3, hb3⟩
    have hmx : (if rq < s then (s : Int) else (rq : Int)) = ((max rq s : Nat) : Int) := by
      split <;> omega
    have HF := Lib.hid (HE.out w3 hb3 _ rfl)
    rw [hmx]
    clear hw3 hb3 h3 c2 hmx HE HH c1 HS
    generalize ((max rq s : Nat) : Int) = mx at *
    go_wp2_with fail
    go_end0
    exact HF.out
  · have HE := Lib.hid (show HzEnd w Z V (H.reached p s) (.returned (.tuple #[])) w from by
      unfold HZ.reached
      rw [if_neg hh]
      exact HzEnd.same h)
    rw [show hasS H.o p = false by simpa using hh] at HS
    clear h hh
    go_enter Tryd.func19, Tryd.ntmps19
    go_wp2_with fail
    refine HS.out.mono ?_
    rintro e w' ⟨rfl, rfl⟩
    go_wp2_with fail
    go_end0
    exact HE.out
set_option maxRecDepth 100000 in
set_option maxHeartbeats 4000000 in
theorem hzCame_any (Z : Nat) (H : HZ) (V : Nat → Value) (p : Int) (seq s : Nat) (w : World) (h : HzAt w Z H V) (ho : HzOk H) :
    Calls Tryd.prog 49 #[.pointer (some ⟨Z, 0, none⟩), .int .i64 p, .int .u32 (seq : Int), .int .u64 (s : Int)] w (HzEnd w Z V (H.came p seq s)) := by
  have c1 := h.co
  have HS := Lib.hid (setHas_any H.o p ho.o w)
  by_cases hh : hasS H.o p = true
  · obtain ⟨hp1, hp2⟩ := hasS_nat hh
    have HSee := Lib.hid (hzSee_any Z H V s w h)
    have HO := Lib.hid ho
    have HC := Lib.hid (show H.came p seq s = (((H.setC (max H.c s)).setCm p.toNat seq).setHd p.toNat (max (H.hd p.toNat) s)).count p.toNat from by unfold HZ.came; rw [if_pos hh])
    obtain ⟨q, hq⟩ : ∃ q, q = p.toNat := ⟨_, rfl⟩
    rw [← hq] at hp1 hp2 HC
    subst hp1
    rw [hh] at HS
    have hq64 : (q : Int) < 64 := by omega
    clear h hh hq ho
    go_enter Tryd.func49, Tryd.ntmps49
    go_wp2_with fail
    refine HS.out.mono ?_
    rintro e w' ⟨rfl, rfl⟩
    go_wp2_with fail
    refine HSee.out.mono ?_
    rintro e w1 ⟨rfl, k1, V1, h1, n1⟩
    have H1 := Lib.hid (And.intro k1 (And.intro n1 h1))
    have f2 : w1.frozen? ⟨Z, 2 + q * 4 + 2, none⟩ = false := h1.free _
    have f0 : w1.frozen? ⟨Z, 2 + q * 4, none⟩ = false := h1.free _
    have c2 : w1.cell? ⟨Z, 2 + q * 4 + 2, none⟩ = some (.int .u32 (H.cm q : Int)) := h1.ccm hp2
    have c0 : w1.cell? ⟨Z, 2 + q * 4, none⟩ = some (.int .u64 (H.hd q : Int)) := h1.chd hp2
    have HE := Lib.hid (show ∀ x : Nat, x = max (H.hd q) s → Calls Tryd.prog 50 #[.pointer (some ⟨Z, 2 + q * 4, none⟩)] ((w1.setCell ⟨Z, 2 + q * 4 + 2, none⟩ (.int .u32 (seq : Int))).setCell ⟨Z, 2 + q * 4, none⟩ (.int .u64 (x : Int))) (HzEnd w Z V (H.came q seq s)) from fun x hx => by
      rw [HC.out, hx]
      have h2 := h1.set (hzC_cm (H.setC (max H.c s)) V1 q seq) rfl
      have h3 := h2.set (hzC_hd ((H.setC (max H.c s)).setCm q seq) V1 q (max (H.hd q) s)) rfl
      have k3 : Kept (hzS Z V1) w1 ((w1.setCell ⟨Z, 2 + q * 4 + 2, none⟩ (.int .u32 (seq : Int))).setCell ⟨Z, 2 + q * 4, none⟩ (.int .u64 ((max (H.hd q) s : Nat) : Int))) := ((kept_set w1 Z _ _).trans (kept_set _ Z _ _)).more fun _ _ e => .inl e
      have t := hz_trans k1 n1 k3 (newV_refl w1 V1)
      exact (hzCount_any Z q _ V1 _ h3 hp2 (Nat.le_trans (HO.out.wt q hp2) (by decide))).mono fun e w' hc => HzEnd.then t.1 t.2 hc)
    obtain ⟨hd, hhd⟩ : ∃ x, x = H.hd q := ⟨_, rfl⟩
    rw [← hhd] at c0 HE
    clear k1 h1 n1 hhd c1 HS HSee
    go_upto_region 4 with (fail)
    have hmx : (if hd < s then (s : Int) else (hd : Int)) = ((max hd s : Nat) : Int) := by
      split <;> omega
    rw [hmx]
    have HF := Lib.hid (HE.out _ rfl)
    clear hmx HE f2 f0 c2 c0
    generalize ((max hd s : Nat) : Int) = mx at *
    go_wp2_with fail
    refine HF.out.mono ?_
    rintro e w2 hE
    obtain ⟨rfl, hE2⟩ := id hE
    have HG := Lib.hid hE
    clear hE hE2 HF
    go_wp2_with fail
    go_end0
    exact HG.out
  · have HE := Lib.hid (show HzEnd w Z V (H.came p seq s) (.returned (.tuple #[])) w from by
      unfold HZ.came
      rw [if_neg hh]
      exact HzEnd.same h)
    rw [show hasS H.o p = false by simpa using hh] at HS
    clear h hh
    go_enter Tryd.func49, Tryd.ntmps49
    go_wp2_with fail
    refine HS.out.mono ?_
    rintro e w' ⟨rfl, rfl⟩
    go_wp2_with fail
    go_end0
    exact HE.out
theorem reads_newP (w : World) (x : Nat × Nat) : Reads (w.alloc (.cells #[.int .u64 (x.1 : Int), .int .u32 (x.2 : Int)] 111)) (w.heap.size + 1) 2 (some ⟨w.heap.size, 0, none⟩) 1 (enP x).toList :=
  ⟨rfl, fun _ => ⟨_, rfl, by show w.heap.size < w.heap.size + 1; omega, fun j u hu => new_cells w (enP x).toList 111 j u hu⟩⟩
set_option maxRecDepth 100000 in
set_option maxHeartbeats 4000000 in
theorem hzPromise_any (Z : Nat) (H : HZ) (V : Nat → Value) (p : Int) (s n : Nat) (w : World) (h : HzAt w Z H V) (ho : HzOk H) :
    Calls Tryd.prog 18 #[.pointer (some ⟨Z, 0, none⟩), .int .i64 p, .int .u64 (s : Int), .int .u32 (n : Int)] w (HzEnd w Z V (H.promise p s n)) := by
  have c1 := h.co
  have HS := Lib.hid (setHas_any H.o p ho.o w)
  by_cases hh : hasS H.o p = true
  · obtain ⟨hp1, hp2⟩ := hasS_nat hh
    have HSee := Lib.hid (hzSee_any Z H V s w h)
    have HO := Lib.hid ho
    have HC := Lib.hid (show H.promise p s n = ((H.setC (max H.c s)).setWt p.toNat (H.wt p.toNat ++ [(s, n)])).count p.toNat from by unfold HZ.promise; rw [if_pos hh])
    obtain ⟨q, hq⟩ : ∃ q, q = p.toNat := ⟨_, rfl⟩
    rw [← hq] at hp1 hp2 HC
    subst hp1
    rw [hh] at HS
    have hq64 : (q : Int) < 64 := by omega
    clear h hh hq ho
    go_enter Tryd.func18, Tryd.ntmps18
    go_wp2_with fail
    refine HS.out.mono ?_
    rintro e w' ⟨rfl, rfl⟩
    go_wp2_with fail
    refine HSee.out.mono ?_
    rintro e w1 ⟨rfl, k1, V1, h1, n1⟩
    obtain ⟨ad, cap, hv⟩ := h1.form hp2
    have hv : V1 q = .slice ad (H.wt q).length cap := hv
    obtain ⟨m, hm⟩ : ∃ m, m = (H.wt q).length := ⟨_, rfl⟩
    have hm1 : m ≤ 100000 := by rw [hm]; exact HO.out.wt q hp2
    have c3 : w1.cell? ⟨Z, 2 + q * 4 + 3, none⟩ = some (.slice ad m cap) := by rw [h1.cwt hp2, hv, hm]
    obtain ⟨i0, hi, hz0, hz1, hz2⟩ := info_parts infoP
    have hown : w1.ownsRow 0 111 2 (.slice ad m cap) m (enL enP (H.wt q)) := by
      have := h1.own q hp2
      rw [hv] at this
      rw [hm]
      exact this
    have HOW := Lib.hid (hown.alloc (.cells #[.int .u64 (s : Int), .int .u32 (n : Int)] 111))
    have HR := Lib.hid (reads_newP w1 (s, n))
    have H1 := Lib.hid (And.intro k1 (And.intro n1 (And.intro h1 (And.intro hv hm))))
    clear k1 n1 h1 hv hm hown c1 HS HSee
    go_wp2_with (at_builtin; refine wpList_append_any _ rfl (.tmp 28) (.tmp 32) 103 rfl 0 111 i0 _ 2 16 Tryd.underlying103 hi hz0 hz1 hz2 rfl (by decide) _ m _ rfl HOW.out _ _ 1 _ _ rfl HR.out (enP_one (s, n)) (by unfold maxLen; omega) (by omega) (by simp) ?_)
    intro v' wg ho2 hg hu
    obtain ⟨ad', cap', rfl⟩ := ownForm ho2
    have HF := Lib.hid (show HzBlk wg Z (H.setC (max H.c s)) V1 ∧ Calls Tryd.prog 50 #[.pointer (some ⟨Z, 2 + q * 4, none⟩)] (wg.setCell ⟨Z, 2 + q * 4 + 3, none⟩ (.slice ad' (m + 1) cap')) (HzEnd w Z V (H.promise q s n)) from by
      obtain ⟨k1, n1, h1, hv, hm⟩ := H1.out
      have hkg : Kept (fun b => b = Z ∨ (V1 q).ownBlock = some b) w1 wg := ((Kept.refl _ _).alloc _).trans ((Kept.of_grown' hg).more fun k _ e => by
        obtain ⟨b, hb, rfl⟩ := e
        right
        rw [hv, ← hm]
        exact hb)
      have hzb : HzBlk wg Z (H.setC (max H.c s)) V1 := by
        have h2 := h1.below (ba (br w1) (.cells #[.int .u64 (s : Int), .int .u32 (n : Int)] 111))
        exact (Kept.of_grown' hg).keep h2.blk (fun e => by
          obtain ⟨b, hb, e⟩ := e
          exact h1.ne hp2 (by rw [hv, ← hm, e]; exact hb))
      have hl : (H.wt q ++ [(s, n)]).length = m + 1 := by rw [List.length_append, ← hm]; rfl
      have hr := HzAt.row (v' := .slice ad' (m + 1) cap') (l := H.wt q ++ [(s, n)]) h1 hp2 hkg hzb rfl (by
        rw [hl, enL_append]
        simpa [enL] using ho2) (fun b e => by
        rcases hu with h | h
        · left
          rw [hv, ← hm, ← h]
          exact e
        · right
          rw [h] at e
          injection e with e
          omega)
      refine ⟨hzb, ?_⟩
      rw [HC.out]
      have t := hz_trans k1 n1 hr.2.2 hr.2.1
      refine (hzCount_any Z q _ _ _ hr.1 hp2 ?_).mono fun e w' hc => HzEnd.then t.1 t.2 hc
      show ((upd H.wt q (H.wt q ++ [(s, n)])) q).length ≤ 1000000
      rw [upd_same, hl]
      omega)
    have f3 : wg.frozen? ⟨Z, 2 + q * 4 + 3, none⟩ = false := frozen_of_row _ _ _ _ _ HF.out.1
    have g3 : wg.cell? ⟨Z, 2 + q * 4 + 3, none⟩ = some (.slice ad m cap) := by
      have := HF.out.1.cell (i := 2 + q * 4 + 3) (by omega)
      rw [this, hzF_wt, H1.out.2.2.2.1, H1.out.2.2.2.2]
    clear ho2 hg hu HOW HR H1 c3
    go_wp2_with fail
    refine HF.out.2.mono ?_
    rintro e w2 hE
    obtain ⟨rfl, hE2⟩ := id hE
    have HG := Lib.hid hE
    clear hE hE2 HF
    go_wp2_with fail
    go_end0
    exact HG.out
  · have HE := Lib.hid (show HzEnd w Z V (H.promise p s n) (.returned (.tuple #[])) w from by
      unfold HZ.promise
      rw [if_neg hh]
      exact HzEnd.same h)
    rw [show hasS H.o p = false by simpa using hh] at HS
    clear h hh
    go_enter Tryd.func18, Tryd.ntmps18
    go_wp2_with fail
    refine HS.out.mono ?_
    rintro e w' ⟨rfl, rfl⟩
    go_wp2_with fail
    go_end0
    exact HE.out
end Go.Proofs.YtgjlcjbmcnofiaaDoor
namespace Go.Proofs.YtgjlcjbmcnofiaaDoor
set_option linter.unusedVariables false
set_option linter.unusedSimpArgs false
open Go.RowKit
def lowOf (f : Nat → Nat) (l : List Nat) (c : Nat) : Nat := l.foldl (fun low p => min low (f p)) c
def HZ.all (H : HZ) : Nat := lowOf H.hd (listS H.o) H.c
def HZ.safe (H : HZ) : Nat := lowOf H.rc (listS H.o) H.all
theorem lowOf_step (f : Nat → Nat) (l : List Nat) (c : Nat) {k : Nat} (h : k < l.length) : lowOf f (l.take (k + 1)) c = min (lowOf f (l.take k) c) (f l[k]) := by
  unfold lowOf
  rw [List.take_succ_eq_append_getElem h, List.foldl_append]
  rfl
theorem min_if (a b : Nat) : (if b < a then (b : Int) else (a : Int)) = ((min a b : Nat) : Int) := by
  split <;> omega
set_option maxRecDepth 100000 in
set_option maxHeartbeats 4000000 in
theorem hzAll_any (Z : Nat) (H : HZ) (V : Nat → Value) (w : World) (h : HzAt w Z H V) (ho : H.o < 18446744073709551616) (hT : Tab w) :
    Calls Tryd.prog 66 #[.pointer (some ⟨Z, 0, none⟩)] w fun e w' => e = .returned (.int .u64 (H.all : Int)) ∧ Below w.heap.size w w' := by
  have c0 := h.cc
  have c1 := h.co
  have HL := Lib.hid (setList_any H.o ho w hT)
  have HH := Lib.hid h
  clear h hT
  go_enter Tryd.func66, Tryd.ntmps66
  go_wp2_with fail
  refine HL.out.mono ?_
  rintro e w1 ⟨ad, cap, rfl, ho1, hb1⟩
  obtain ⟨n, hn⟩ : ∃ n, n = (listS H.o).length := ⟨_, rfl⟩
  have hn64 : n ≤ 64 := by rw [hn]; exact listS_len _
  have H1 := Lib.hid (And.intro ho1 (And.intro hb1 hn))
  rw [← hn]
  clear ho1 hb1 hn HL c0 c1
  go_wp2_with fail
  go_loopw [3, 16] (fun low i wr => ∃ k : Nat, k ≤ n ∧ i = .int .i64 (k : Int) ∧ low = .int .u64 (lowOf H.hd ((listS H.o).take k) H.c : Int) ∧ Hid (Below w1.heap.size w1 wr)) (fun _ i _ => n - (intOf i).toNat)
  case atStart => exact ⟨0, by omega, rfl, rfl, br _⟩
  case round =>
    obtain ⟨k, hk, rfl, rfl, HW⟩ := hrel
    by_cases hlt : k < n
    · have hd : decide ((k : Int) < (n : Int)) = true := by simpa using hlt
      have hi1 : (k : Int) < (n : Int) := by omega
      have hkl : k < (listS H.o).length := by rw [← H1.out.2.2]; exact hlt
      obtain ⟨g, cap', hg, hg0, hg1⟩ := H1.out.1.form (by omega)
      injection hg with hga _ _
      have hcell : wr.cell? ⟨g, k, none⟩ = some (.int .i64 ((listS H.o)[k] : Int)) := by
        have := H1.out.1.cells (g := g) (by rw [hga]; rfl) k (.int .i64 ((listS H.o)[k] : Int)) (by unfold natsL; rw [List.getElem?_map, List.getElem?_eq_getElem hkl]; rfl)
        rw [show (⟨g, 0, none⟩ : Addr).add k = ⟨g, k, none⟩ from by unfold Addr.add; split <;> simp_all] at this
        exact (HW.out.cell (p := ⟨g, k, none⟩) hg1).trans this
      have hq : (listS H.o)[k] < 64 := (mem_listS.1 (List.getElem_mem hkl)).1
      have hr := HH.out.below (H1.out.2.1.trans (HW.out.mono H1.out.2.1.size))
      have c2 : wr.cell? ⟨Z, 2 + (listS H.o)[k] * 4, none⟩ = some (.int .u64 (H.hd (listS H.o)[k] : Int)) := hr.chd hq
      have HST := Lib.hid (lowOf_step H.hd (listS H.o) H.c hkl)
      generalize (listS H.o)[k] = q at *
      have hq64 : (q : Int) < 64 := by omega
      generalize lowOf H.hd ((listS H.o).take k) H.c = low at *
      generalize H.hd q = hq' at *
      rw [hga]
      have HK := Lib.hid hlt
      clear hkl hga hg0 hr hlt
      go_wp2_with fail
      exact ⟨⟨k + 1, HK.out, by go_num, by rw [HST.out, min_if], HW⟩, by have := HK.out; simp [intOf]; omega⟩
    · have hd : decide ((k : Int) < (n : Int)) = false := by simpa using hlt
      obtain rfl : k = n := by omega
      have HE := Lib.hid (show ((lowOf H.hd ((listS H.o).take k) H.c : Nat) : Int) = (H.all : Int) ∧ Below w.heap.size w wr from ⟨by rw [H1.out.2.2, List.take_length]; rfl, H1.out.2.1.trans (HW.out.mono H1.out.2.1.size)⟩)
      rw [HE.out.1]
      clear HW
      go_wp2_with fail
      go_ret
      exact ⟨rfl, HE.out.2⟩
set_option maxRecDepth 100000 in
set_option maxHeartbeats 4000000 in
theorem hzSafe_any (Z : Nat) (H : HZ) (V : Nat → Value) (w : World) (h : HzAt w Z H V) (ho : H.o < 18446744073709551616) (hT : Tab w) :
    Calls Tryd.prog 67 #[.pointer (some ⟨Z, 0, none⟩)] w fun e w' => e = .returned (.int .u64 (H.safe : Int)) ∧ Below w.heap.size w w' := by
  have HA := Lib.hid (hzAll_any Z H V w h ho hT)
  have HL := Lib.hid (fun w' (hb : Below w.heap.size w w') => setList_any H.o ho w' (hT.below hb hT.lt))
  have HC1 := Lib.hid (show ∀ w', Below w.heap.size w w' → w'.cell? ⟨Z, 1, none⟩ = some (.int .u64 (H.o : Int)) from fun w' hb => (h.below hb).co)
  have HH := Lib.hid h
  clear h hT
  go_enter Tryd.func67, Tryd.ntmps67
  go_wp2_with fail
  refine HA.out.mono ?_
  rintro e w0 ⟨rfl, hb0⟩
  have c1 := HC1.out w0 hb0
  have HL0 := Lib.hid (HL.out w0 hb0)
  have HB0 := Lib.hid hb0
  obtain ⟨al, hal⟩ : ∃ al, al = H.all := ⟨_, rfl⟩
  rw [← hal]
  have HAL := Lib.hid hal
  clear hb0 hal HA
  go_wp2_with fail
  refine HL0.out.mono ?_
  rintro e w1 ⟨ad, cap, rfl, ho1, hb1⟩
  obtain ⟨n, hn⟩ : ∃ n, n = (listS H.o).length := ⟨_, rfl⟩
  have hn64 : n ≤ 64 := by rw [hn]; exact listS_len _
  have H1 := Lib.hid (And.intro (ownMore ho1 HB0.out.size) (And.intro (bt HB0.out hb1) hn))
  rw [← hn]
  clear ho1 hb1 hn HL c1 HC1 HL0
  go_wp2_with fail
  go_loopw [3, 14] (fun low i wr => ∃ k : Nat, k ≤ n ∧ i = .int .i64 (k : Int) ∧ low = .int .u64 (lowOf H.rc ((listS H.o).take k) H.all : Int) ∧ Hid (Below w1.heap.size w1 wr)) (fun _ i _ => n - (intOf i).toNat)
  case atStart => exact ⟨0, by omega, rfl, by rw [HAL.out]; rfl, br _⟩
  case round =>
    obtain ⟨k, hk, rfl, rfl, HW⟩ := hrel
    by_cases hlt : k < n
    · have hd : decide ((k : Int) < (n : Int)) = true := by simpa using hlt
      have hi1 : (k : Int) < (n : Int) := by omega
      have hkl : k < (listS H.o).length := by rw [← H1.out.2.2]; exact hlt
      obtain ⟨g, cap', hg, hg0, hg1⟩ := H1.out.1.form (by omega)
      injection hg with hga _ _
      have hcell : wr.cell? ⟨g, k, none⟩ = some (.int .i64 ((listS H.o)[k] : Int)) := by
        have := H1.out.1.cells (g := g) (by rw [hga]; rfl) k (.int .i64 ((listS H.o)[k] : Int)) (by unfold natsL; rw [List.getElem?_map, List.getElem?_eq_getElem hkl]; rfl)
        rw [show (⟨g, 0, none⟩ : Addr).add k = ⟨g, k, none⟩ from by unfold Addr.add; split <;> simp_all] at this
        exact (HW.out.cell (p := ⟨g, k, none⟩) hg1).trans this
      have hq : (listS H.o)[k] < 64 := (mem_listS.1 (List.getElem_mem hkl)).1
      have hr := HH.out.below (H1.out.2.1.trans (HW.out.mono H1.out.2.1.size))
      have c2 : wr.cell? ⟨Z, 2 + (listS H.o)[k] * 4 + 1, none⟩ = some (.int .u64 (H.rc (listS H.o)[k] : Int)) := hr.crc hq
      have HST := Lib.hid (lowOf_step H.rc (listS H.o) H.all hkl)
      generalize (listS H.o)[k] = q at *
      have hq64 : (q : Int) < 64 := by omega
      generalize lowOf H.rc ((listS H.o).take k) H.all = low at *
      generalize H.rc q = hq' at *
      rw [hga]
      have HK := Lib.hid hlt
      clear hkl hga hg0 hr hlt
      go_wp2_with fail
      exact ⟨⟨k + 1, HK.out, by go_num, by rw [HST.out, min_if], HW⟩, by have := HK.out; simp [intOf]; omega⟩
    · have hd : decide ((k : Int) < (n : Int)) = false := by simpa using hlt
      obtain rfl : k = n := by omega
      have HE := Lib.hid (show ((lowOf H.rc ((listS H.o).take k) H.all : Nat) : Int) = (H.safe : Int) ∧ Below w.heap.size w wr from ⟨by rw [H1.out.2.2, List.take_length]; rfl, H1.out.2.1.trans (HW.out.mono H1.out.2.1.size)⟩)
      rw [HE.out.1]
      clear HW
      go_wp2_with fail
      go_ret
      exact ⟨rfl, HE.out.2⟩
/-- a new horizon -/
def hz0 (o : Nat) : HZ := ⟨0, o, fun _ => 0, fun _ => 0, fun _ => 0, fun _ => []⟩
def nilV : Nat → Value := fun _ => .slice none 0 0
theorem hz0_at {w : World} {N o : Nat} (h : w.heap[N]? = some (.cells (hzC (hz0 o) nilV) 108 (0, 0))) : HzAt w N (hz0 o) nilV :=
  ⟨h, fun p hp => ⟨rfl, .inl ⟨rfl, rfl⟩⟩, fun p q b _ _ _ h => by cases h⟩
def NewHz (w : World) (o : Nat) (e : Ending) (w' : World) : Prop := ∃ N, e = .returned (.pointer (some ⟨N, 0, none⟩)) ∧ w.heap.size ≤ N ∧ HzAt w' N (hz0 o) nilV ∧ Below w.heap.size w w'
set_option maxRecDepth 100000 in
set_option maxHeartbeats 4000000 in
theorem hzNew_any (me : Int) (m : Nat) (w : World) (hm : m < 18446744073709551616) : Calls Tryd.prog 45 #[.int .i64 me, .int .u64 (m : Int)] w (NewHz w (butS m (oneS me))) := by
  have HB := Lib.hid (show Tryd.prog.built 108 [(1, .int .u64 (butS m (oneS me) : Int))] = some (hzC (hz0 (butS m (oneS me))) nilV) from by kernel_rfl)
  obtain ⟨w1, hw1⟩ : ∃ w1, w1 = w.alloc (.cells #[.int .i64 me] 3) := ⟨_, rfl⟩
  have hb1 : Below w.heap.size w w1 := by rw [hw1]; exact ba (br w) _
  have HL := Lib.hid (show Calls Tryd.prog 70 #[.int .u64 (m : Int), .slice (some ⟨w.heap.size, 0, none⟩) 1 1] w1 fun e w' => e = .returned (.int .u64 (butS m (oneS me) : Int)) ∧ w1 = w' from by
    have := setLess_any m [me] (some ⟨w.heap.size, 0, none⟩) 1 hm w1 (by simp) (by
      rw [hw1]
      have := reads_one w (.int .i64 me) 3
      simpa [intsL] using this)
    have e : withAll 0 [me] = oneS me := by simp [withAll, withS]
    rw [e] at this
    exact this)
  obtain ⟨o, ho⟩ : ∃ o, o = butS m (oneS me) := ⟨_, rfl⟩
  rw [← ho] at HB HL ⊢
  obtain ⟨cz, hcz⟩ : ∃ cz, cz = hzC (hz0 o) nilV := ⟨_, rfl⟩
  rw [← hcz] at HB
  have HE := Lib.hid (show NewHz w o (.returned (.pointer (some ⟨w1.heap.size, 0, none⟩))) (w1.alloc (.cells cz 108)) from ⟨_, rfl, hb1.size, hz0_at (by rw [← hcz]; exact heap_alloc_new w1 _), ba hb1 _⟩)
  have HW1 := Lib.hid hw1
  clear hw1 hb1 ho hcz hm
  go_enter Tryd.func45, Tryd.ntmps45
  go_wp2_with fail
  rw [← HW1.out]
  refine HL.out.mono ?_
  rintro e w' ⟨rfl, rfl⟩
  go_wp2_with (first | (refine wpList_buildT rfl 108 #[(1, .tmp 8)] rfl cz (by simp only [List.map_toArray, List.map_cons, List.map_nil]; exact HB.out) ?_) | fail)
  go_ret
  exact HE.out
end Go.Proofs.YtgjlcjbmcnofiaaDoor
