/-
  An order's Copy.
  Conditions: those that each theorem names.
-/
import Derived.Test.YtgjlcjbmcnofiaaDoorHzE
import Derived.Test.YtgjlcjbmcnofiaaDoorOrdM
namespace Go.Proofs.YtgjlcjbmcnofiaaDoor
set_option linter.unusedVariables false
set_option linter.unusedSimpArgs false
open Go.RowKit
def orL (O : PO) (D Z : Nat) : List Value := (List.range 70).map (orF O D Z)
theorem orL_len (O : PO) (D Z : Nat) : (orL O D Z).length = 70 := by simp [orL]
theorem orL_one (O : PO) (D Z : Nat) : ∀ v ∈ orL O D Z, v.oneCell' = true := by
  intro v hv
  obtain ⟨i, hi, rfl⟩ := List.mem_map.1 hv
  unfold orF
  split
  · rfl
  · split
    · rfl
    · split
      · rfl
      · split
        · rfl
        · split
          · rfl
          · split <;> rfl
theorem orC_D (O : PO) (D Z E : Nat) : (orC O D Z).setIfInBounds 0 (.pointer (some ⟨E, 0, none⟩)) = orC O E Z := orC_set fun i hi => by
  by_cases h : i = 0
  · subst h; rfl
  · rw [if_neg h]; unfold orF; simp only [if_neg h]
theorem orC_Z (O : PO) (D Z F : Nat) : (orC O D Z).setIfInBounds 1 (.pointer (some ⟨F, 0, none⟩)) = orC O D F := orC_set fun i hi => by
  by_cases h : i = 1
  · subst h; rfl
  · rw [if_neg h]; unfold orF
    by_cases h0 : i = 0
    · simp [h0]
    · simp only [if_neg h, if_neg h0]
/-- what Copy leaves -/
def CopyOr (w : World) (O : PO) (e : Ending) (w' : World) : Prop := ∃ N E F V' U', e = .returned (.pointer (some ⟨N, 0, none⟩)) ∧ OrAt w' N E F O V' U' ∧ (∀ b, orS N E F V' U' b → w.heap.size ≤ b) ∧ Below w.heap.size w w'
theorem begin_or {w W1 : World} {O : PO} {D Z : Nat} {C : Array Value} (hC : C.size = 70) (hW : W1 = (w.alloc (.cells C 60)).setCells w.heap.size 0 (orL O D Z)) : W1.heap[w.heap.size]? = some (.cells (orC O D Z) 60 (0, 0)) ∧ Below w.heap.size w W1 := by
  refine ⟨?_, by rw [hW]; exact bsl (Nat.le_refl _) _ _ _ (ba (br w) _)⟩
  obtain ⟨cs, h1, h2, h3⟩ := setCells_row (orL O D Z) 0 _ _ (heap_alloc_new w (.cells C 60))
  rw [hW, h1]
  have : cs = orC O D Z := by
    apply Array.ext_getElem?
    intro j
    rw [h3, hC, orL_len]
    by_cases hj : j < 70
    · rw [if_pos ⟨by omega, by omega, hj⟩]; unfold orC orL; simp
    · rw [if_neg (by omega), Array.getElem?_eq_none (by omega), Array.getElem?_eq_none (by rw [orC_size]; omega)]
  rw [this]
set_option maxRecDepth 100000 in
set_option maxHeartbeats 4000000 in
theorem orCopy_any {w : World} {B D Z : Nat} {O : PO} {V VH : Nat → Value} (h : OrAt w B D Z O V VH) (hk : OrOk O) :
    Calls Tryd.prog 32 #[.pointer (some ⟨B, 0, none⟩)] w (CopyOr w O) := by
  obtain ⟨Y, hY⟩ : ∃ Y, Y = ((orC ⟨0, 0, lo0, R0, hz0 0, fun _ => 0, 0, 0⟩ 0 0).setIfInBounds 0 (.pointer none)).setIfInBounds 1 (.pointer none) := ⟨_, rfl⟩
  have hz : ∀ W : World, (zeroValue 60).run Tryd.prog W = .ok (.agg Y) W := fun W => by rw [hY]; kernel_rfl
  have hYs : Y.size = 70 := by rw [hY, Array.size_setIfInBounds, Array.size_setIfInBounds, orC_size]
  have hth := there_row (heap_alloc_new w (.cells Y 60))
  rw [hYs] at hth
  have hall : w.rangeAt B 0 (orL O D Z) := fun j u hu => by
    rw [Nat.zero_add]
    exact (cell_of_row _ _ j _ _ _ h.blk).trans (by unfold orC orL at *; simpa using hu)
  have hone : (orL O D Z).toArray.all (·.oneCell') = true := all_oneCell_toArray (orL_one O D Z)
  have hl := orL_len O D Z
  have hB := fun W1 => begin_or (w := w) (W1 := W1) (O := O) (D := D) (Z := Z) hYs
  obtain ⟨L, hL⟩ : ∃ L, L = orL O D Z := ⟨_, rfl⟩
  rw [← hL] at hone hall hl hB
  have hLs : L.toArray.size = 70 := by simpa using hl
  have hsz : (Tryd.prog.info? 60).map (·.size) = some L.toArray.size := by rw [hLs]; kernel_rfl
  have hth2 : (w.alloc (.cells Y 60)).there w.heap.size 0 L.toArray.size := by rw [hLs]; exact hth
  have HB := Lib.hid hB
  have HA := Lib.hid (And.intro h hk)
  have HL := Lib.hid hall
  have HT := Lib.hid hth2
  have HO := Lib.hid hone
  have HS := Lib.hid hsz
  clear h hk hall hth hth2 hone hsz hL hY hYs hLs hB
  go_enter Tryd.func32, Tryd.ntmps32
  go_upto_region 2 with (first
    | (with_reducible refine wpList_load_mid rfl 60 (.tmp 5) rfl B 0 rfl L _ HL.out Tryd.underlying60 rfl (by rw [hl]; kernel_rfl) ?_)
    | (with_reducible refine wpList_store_mid rfl 60 (.tmp 3) (.tmp 6) rfl w.heap.size 0 L.toArray rfl rfl HT.out HS.out HO.out ?_)
    | fail)
  have hB := HB.out _ rfl
  clear HT HO HS HL HB
  have e0 : L.toArray.toList = L := by simp
  try rw [e0]
  generalize (w.alloc (.cells Y 60)).setCells w.heap.size 0 L = W1 at *
  obtain ⟨hn1, hb1⟩ := hB
  obtain ⟨N, hN⟩ : ∃ N, N = w.heap.size := ⟨_, rfl⟩
  rw [← hN] at hn1 ⊢
  have h1 := HA.out.1.below hb1
  have hS0 : W1.drew.cell? ⟨B, 0, none⟩ = some (.pointer (some ⟨D, 0, none⟩)) ∧ W1.drew.cell? ⟨B, 1, none⟩ = some (.pointer (some ⟨Z, 0, none⟩)) := ⟨(h1.below ((br W1).drew)).cD, (h1.below ((br W1).drew)).cell (i := 1) (by decide)⟩
  have hn2 : W1.drew.heap[N]? = some (.cells (orC O D Z) 60 (0, 0)) := hn1
  have hb2 : Below w.heap.size w W1.drew := hb1.drew
  have h2 := HA.out.1.below hb2
  clear e0 hz
  refine wp_region_mask (fun w' => w'.cell? ⟨B, 0, none⟩ = some (.pointer (some ⟨D, 0, none⟩)) ∧ w'.cell? ⟨B, 1, none⟩ = some (.pointer (some ⟨Z, 0, none⟩))) 10 6 [true, true, true, true, false, true, true, true, true, false, false, false, false, false] #[true, true, true, true, false, true, true, true, true, false, false, false, false, false] (by kernel_rfl) (by kernel_rfl) (by kernel_rfl) hS0 ?_
  have HH := Lib.hid (And.intro h2 (And.intro hn2 (And.intro hb2 (And.intro hN hS0))))
  clear hS0 h1 h2 hn1 hn2 hb1 hb2 hN hl
  generalize W1.drew = W at *
  iterate 4
    refine wpMask_take _ (Or.inl ⟨by rfl, fun w' hS => by (try dsimp only at hS); obtain ⟨hS1, hS2⟩ := hS; go_simp; try with_reducible rfl⟩) ?_
    simp only [Act.put, List.setIfInBounds_toArray, List.set_cons_zero, List.set_cons_succ]
  refine wpMask_skip ?_
  iterate 4
    refine wpMask_take _ (Or.inl ⟨by rfl, fun w' hS => by (try dsimp only at hS); obtain ⟨hS1, hS2⟩ := hS; go_simp; try with_reducible rfl⟩) ?_
    simp only [Act.put, List.setIfInBounds_toArray, List.set_cons_zero, List.set_cons_succ]
  refine wpMask_skip (wpMask_skip (wpMask_skip (wpMask_skip (wpMask_skip (wpMask_nil ?_)))))
  have HC1 := Lib.hid (hCopy_any D O.lo O.R V W HH.out.1.hold HA.out.2.bd)
  refine wpAnyS_ready (rs := [4]) (by kernel_rfl) (by simp) ?_
  refine AllReadyS.cons rfl (fun K hK => ?_) AllReadyS.nil
  go_simp
  refine HC1.out.mono ?_
  rintro e w3 ⟨E, V1, rfl, a1, a2, a3⟩
  have h3 := HH.out.1.below a3
  have n3 := (a3.block _ (Array.getElem?_eq_some_iff.1 HH.out.2.1).1).trans HH.out.2.1
  have HC2 := Lib.hid (hzCopy_any Z O.H VH w3 h3.hz HA.out.2.hz)
  have s3 : w3.cell? ⟨B, 0, none⟩ = some (.pointer (some ⟨D, 0, none⟩)) ∧ w3.cell? ⟨B, 1, none⟩ = some (.pointer (some ⟨Z, 0, none⟩)) := ⟨h3.cD, h3.cell (i := 1) (by decide)⟩
  have H3 := Lib.hid (And.intro h3 (And.intro n3 (And.intro a1 (And.intro a2 a3))))
  refine hK.out _ _ (fun _ => s3) ?_
  clear hK K HC1 h3 n3 a1 a2 a3 s3
  simp only [Act.put, List.getElem_toArray, List.getElem_cons_succ, List.getElem_cons_zero, List.setIfInBounds_toArray, List.set_cons_zero, List.set_cons_succ]
  refine wpAnyS_ready (rs := [9]) (by kernel_rfl) (by simp) ?_
  refine AllReadyS.cons rfl (fun K hK => ?_) AllReadyS.nil
  go_simp
  refine HC2.out.mono ?_
  rintro e w4 ⟨F, U1, rfl, b1, b2, b3⟩
  obtain ⟨h3, n3, a1, a2, a3⟩ := H3.out
  have h4 := h3.below b3
  have n4 := (b3.block _ (Array.getElem?_eq_some_iff.1 n3).1).trans n3
  have s4 : w4.cell? ⟨B, 0, none⟩ = some (.pointer (some ⟨D, 0, none⟩)) ∧ w4.cell? ⟨B, 1, none⟩ = some (.pointer (some ⟨Z, 0, none⟩)) := ⟨h4.cD, h4.cell (i := 1) (by decide)⟩
  have n5 := setCell_block n4 0 (.pointer (some ⟨E, 0, none⟩))
  rw [orC_D] at n5
  have n6 := setCell_block n5 1 (.pointer (some ⟨F, 0, none⟩))
  rw [orC_Z] at n6
  have f0 : w4.frozen? ⟨N, 0, none⟩ = false := frozen_of_row _ _ _ _ _ n4
  have g0 : w4.cell? ⟨N, 0, none⟩ = some (.pointer (some ⟨D, 0, none⟩)) := cell_of_row _ _ 0 _ _ _ n4
  have f1 : (w4.setCell ⟨N, 0, none⟩ (.pointer (some ⟨E, 0, none⟩))).frozen? ⟨N, 1, none⟩ = false := frozen_of_row _ _ _ _ _ n5
  have g1 : (w4.setCell ⟨N, 0, none⟩ (.pointer (some ⟨E, 0, none⟩))).cell? ⟨N, 1, none⟩ = some (.pointer (some ⟨Z, 0, none⟩)) := cell_of_row _ _ 1 _ _ _ n5
  have HE := Lib.hid (show CopyOr w O (.returned (.pointer (some ⟨N, 0, none⟩))) ((w4.setCell ⟨N, 0, none⟩ (.pointer (some ⟨E, 0, none⟩))).setCell ⟨N, 1, none⟩ (.pointer (some ⟨F, 0, none⟩))) from by
    have hNW : N < W.heap.size := (Array.getElem?_eq_some_iff.1 HH.out.2.1).1
    have hNw : w.heap.size ≤ N := by rw [HH.out.2.2.2.1]; exact Nat.le_refl _
    have hWs := HH.out.2.2.1.size
    have h3s := a3.size
    have hold4 := a1.below b3
    have k5 := kept_set w4 N 0 (.pointer (some ⟨E, 0, none⟩))
    have k6 := kept_set (w4.setCell ⟨N, 0, none⟩ (.pointer (some ⟨E, 0, none⟩))) N 1 (.pointer (some ⟨F, 0, none⟩))
    have c4 := calm_at n4 (by decide)
    have c5 := calm_at n5 (by decide)
    have x1 : ∀ b, holdS E V1 b → ¬ b = N := fun b hb e => by have := a2 b hb; omega
    have x2 : ∀ b, hzS F U1 b → ¬ b = N := fun b hb e => by have := b2 b hb; omega
    refine ⟨N, E, F, V1, U1, rfl, ⟨n6, (hold4.keptC k5 x1 c4).keptC k6 x1 c5, (b1.kept k5 x2).kept k6 x2, fun b hb e => ?_⟩, fun b hb => ?_, bs (bs (bt HH.out.2.2.1 (bt a3 b3)) (p := ⟨N, 0, none⟩) hNw _) (p := ⟨N, 1, none⟩) hNw _⟩
    · have q1 : b < w3.heap.size := by
        rcases hb with rfl | ⟨p, hp, hb⟩
        · exact a1.lt
        · exact ((a1.own p hp).lt b hb).2
      have q2 := b2 b e
      omega
    · rcases hb with rfl | hb | hb
      · exact hNw
      · have := a2 b hb
        omega
      · have := b2 b hb
        omega)
  refine hK.out _ _ (fun _ => s4) ?_
  clear hK K HC2 h3 n3 a1 a2 a3 h4 n4 n5 n6 b1 b2 b3 s4 H3
  simp only [Act.put, List.getElem_toArray, List.getElem_cons_succ, List.getElem_cons_zero, List.setIfInBounds_toArray, List.set_cons_zero, List.set_cons_succ]
  refine wpAnyS_ready (rs := [10]) (by kernel_rfl) (by simp) ?_
  refine AllReadyS.cons rfl (fun K hK => ?_) AllReadyS.nil
  go_simp
  refine hK.out _ _ (fun h => absurd h (by decide)) ?_
  clear hK K
  simp only [Act.put, List.getElem_toArray, List.getElem_cons_succ, List.getElem_cons_zero, List.setIfInBounds_toArray, List.set_cons_zero, List.set_cons_succ]
  refine wpAnyS_ready (rs := [11]) (by kernel_rfl) (by simp) ?_
  refine AllReadyS.cons rfl (fun K hK => ?_) AllReadyS.nil
  go_simp
  refine hK.out _ _ (fun h => absurd h (by decide)) ?_
  clear hK K
  simp only [Act.put, List.getElem_toArray, List.getElem_cons_succ, List.getElem_cons_zero, List.setIfInBounds_toArray, List.set_cons_zero, List.set_cons_succ]
  refine wpAnyS_ready (rs := [12]) (by kernel_rfl) (by simp) ?_
  refine AllReadyS.cons rfl (fun K hK => ?_) AllReadyS.nil
  go_simp
  refine hK.out _ _ (fun h => absurd h (by decide)) ?_
  clear hK K
  simp only [Act.put, List.getElem_toArray, List.getElem_cons_succ, List.getElem_cons_zero, List.setIfInBounds_toArray, List.set_cons_zero, List.set_cons_succ]
  refine wpAnyS_ready (rs := [13]) (by kernel_rfl) (by simp) ?_
  refine AllReadyS.cons rfl (fun K hK => ?_) AllReadyS.nil
  go_simp
  refine hK.out _ _ (fun h => absurd h (by decide)) ?_
  clear hK K
  simp only [Act.put, List.getElem_toArray, List.getElem_cons_succ, List.getElem_cons_zero, List.setIfInBounds_toArray, List.set_cons_zero, List.set_cons_succ]
  refine wpAnyS_done (by kernel_rfl) ?_ _
  go_wp2_with fail
  go_ret
  exact HE.out
end Go.Proofs.YtgjlcjbmcnofiaaDoor
