/-
  The judge is awake: its walk.
  Conditions: none.
-/
import Derived.Test.YtogagkgkmoppmaaGreatDoorJuZBZs
namespace Go.Proofs.YtogagkgkmoppmaaGreatDoor
set_option linter.unusedVariables false
set_option linter.unusedSimpArgs false
open Go.RowKit GM
theorem rows3_eq : ([] ++ rows2) ++ (evA eA4).toList = rowsE [eA1, eA2, eA4] := rfl
set_option maxRecDepth 100000 in
set_option maxHeartbeats 16000000 in
theorem awake_any (w : World) : Calls Tryz.prog 5 #[] w fun e w' => e = .returned (.bool true) ∧ Below w.heap.size w w' := by
  obtain ⟨w1, hw1⟩ : ∃ w1, w1 = ((w.alloc (.cells #[.int .u64 1, .int .i64 0] 27)).alloc (.cells #[.int .i64 0, .int .u32 1, .int .u64 1, .int .i64 0, .slice none 0 0, .string ⟨#[]⟩] 31)).alloc (.cells #[.int .i64 5, .int .i64 0, .int .u64 0, .int .i64 0, .int .u64 0, .int .i64 0, .int .u64 0, .int .i64 0, .int .u32 0, .int .u64 0, .int .i64 0, .slice none 0 0, .string ⟨#[]⟩, .int .u64 0, .int .u64 0, .int .i64 0, .int .u64 0, .slice none 0 0, .string ⟨#[]⟩, .int .i64 3, .int .i64 0, .int .u64 1, .int .i64 0, .int .u64 0, .int .i64 0, .int .u64 1, .int .i64 0, .int .u32 0, .int .u64 0, .int .i64 0, .slice none 0 0, .string ⟨#[]⟩, .int .u64 0, .int .u64 0, .int .i64 0, .int .u64 0, .slice none 0 0, .string ⟨#[]⟩, .int .i64 1, .int .i64 0, .int .u64 1, .int .i64 0, .int .u64 0, .int .i64 0, .int .u64 0, .int .i64 0, .int .u32 1, .int .u64 1, .int .i64 0, .slice none 0 0, .string ⟨#[]⟩, .int .u64 0, .int .u64 0, .int .i64 0, .int .u64 0, .slice none 0 0, .string ⟨#[]⟩, .int .i64 2, .int .i64 0, .int .u64 1, .int .i64 0, .int .u64 0, .int .i64 0, .int .u64 0, .int .i64 0, .int .u32 1, .int .u64 1, .int .i64 0, .slice none 0 0, .string ⟨#[]⟩, .int .u64 0, .int .u64 0, .int .i64 0, .int .u64 0, .slice none 0 0, .string ⟨#[]⟩] 36) := ⟨_, rfl⟩
  obtain ⟨g, hg⟩ : ∃ g, g = w.heap.size + 1 + 1 := ⟨_, rfl⟩
  have hrow : w1.heap[g]? = some (.cells rowA 36 (0, 0)) := by
    have h := heap_alloc_new ((w.alloc (.cells #[.int .u64 1, .int .i64 0] 27)).alloc (.cells #[.int .i64 0, .int .u32 1, .int .u64 1, .int .i64 0, .slice none 0 0, .string ⟨#[]⟩] 31)) (.cells rowA 36)
    have e : (((w.alloc (.cells #[.int .u64 1, .int .i64 0] 27)).alloc (.cells #[.int .i64 0, .int .u32 1, .int .u64 1, .int .i64 0, .slice none 0 0, .string ⟨#[]⟩] 31))).heap.size = w.heap.size + 1 + 1 := by simp
    rw [e] at h
    rw [hw1, hg]
    exact h
  have hgl := (Array.getElem?_eq_some_iff.1 hrow).1
  have hcell : ∀ (W : World), Below w1.heap.size w1 W → ∀ (j : Nat) (u : Value), (rowsE lA)[j]? = some u → W.cell? ⟨g, 0 + j, none⟩ = some u := fun W hb j u hu => by
    rw [Nat.zero_add]
    refine (hb.cell (p := ⟨g, j, none⟩) hgl).trans ((cell_of_row _ _ j _ _ _ hrow).trans ?_)
    rw [← Array.getElem?_toList, rowA_eq]
    exact hu
  have hgW : ∀ (W : World), Below w1.heap.size w1 W → g < W.heap.size := fun W hb => Nat.lt_of_lt_of_le hgl hb.size
  have hT4 : ∀ (W : World), Below w1.heap.size w1 W → Tr W g 0 lA nmA := fun W hb => tr_cells (hgW W hb) (by decide) (bareA.sub (by simp [lA])) (hcell W hb)
  have hT2 : ∀ (W : World), Below w1.heap.size w1 W → Tr W g 0 [eA1, eA2] nmA := fun W hb => tr_cells (hgW W hb) (by decide) (bareA.sub (by simp)) (fun j u hu => hcell W hb j u (by
    have hj : j < rows2.length := (List.getElem?_eq_some_iff.1 hu).1
    rw [show rowsE lA = rows2 ++ rowsE [eA3, eA4] from rfl, List.getElem?_append_left hj]
    exact hu))
  have hT1 : ∀ (W : World), Below w1.heap.size w1 W → Tr W g 19 [eA2, eA3, eA4] nmA := fun W hb => tr_cells (hgW W hb) (by decide) (bareA.sub (by simp)) (fun j u hu => by
    have h := hcell W hb (19 + j) u (by
      rw [show rowsE lA = (evA eA1).toList ++ rowsE [eA2, eA3, eA4] from rfl, List.getElem?_append_right (by rw [evA_len]; omega), evA_len, show 19 + j - 19 = j by omega]
      exact hu)
    rw [Nat.zero_add] at h
    exact h)
  have hb1 : Below w.heap.size w w1 := by rw [hw1]; exact ba (ba (ba (br w) _) _) _
  have HER := Lib.hid (erased_none (at_nilA w1) (hT4 w1 (br w1)) (some ⟨g, 0, none⟩) (fun _ => rfl) 4 (by decide) 0 (fun s hs => by
    have h := List.mem_map_of_mem (f := fun s : JS => s.nx) hs
    have h2 : (thru lA nmA lA.length).stays.map (fun s : JS => s.nx) = [none] := nxA
    rw [h2] at h
    exact List.mem_singleton.1 h))
  have HH := Lib.hid (And.intro hT4 (And.intro hT2 (And.intro hT1 (And.intro hb1 hcell))))
  clear hrow hgl hcell hgW hT4 hT2 hT1 hb1
  go_enter Tryz.func5, Tryz.ntmps5
  go_upto_region 4 with (fail)
  rw [← hw1, ← hg]
  clear hw1 hg
  go_wp2_with fail
  refine HER.out.mono ?_
  rintro e w2 ⟨rfl, h2⟩
  have HB2 := Lib.hid h2.bel
  clear h2 HER
  go_upto_region 5 with (fail)
  obtain ⟨wb, rfl⟩ : ∃ z, z = w2 := ⟨_, rfl⟩
  have HB := Lib.hid (bt HH.out.2.2.2.1 HB2.out)
  have HE0 := Lib.hid (fun W => evs_nil W)
  have HV0 := Lib.hid (fun W => views_nil W)
  have HE4 := Lib.hid (fun (W : World) (hb : Below wb.heap.size wb W) => evs_at (n := 4) (cap := 4) (HH.out.1 W (bt HB2.out hb)) (by decide) rfl evsA4)
  have HE2 := Lib.hid (fun (W : World) (hb : Below wb.heap.size wb W) => evs_at (n := 2) (cap := 4) (HH.out.2.1 W (bt HB2.out hb)) (by decide) rfl evsA2)
  have HE1 := Lib.hid (fun (W : World) (hb : Below wb.heap.size wb W) => evs_at (n := 3) (cap := 3) (HH.out.2.2.1 W (bt HB2.out hb)) (by decide) rfl evsA1)
  have HR4 := Lib.hid (show ∀ W : World, Below wb.heap.size wb W → W.rangeAt g 57 (evA eA4).toList from fun W hb j u hu => by
    have h := HH.out.2.2.2.2 W (bt HB2.out hb) (3 * 19 + j) u (rowsE_at lA 3 (by decide) j u hu)
    rw [Nat.zero_add] at h
    exact h)
  have HRD := Lib.hid (show ∀ W : World, Below wb.heap.size wb W → Reads W W.heap.size 19 (some ⟨g, 0, none⟩) 2 rows2 from fun W hb => ⟨rfl, fun _ => ⟨_, rfl, (HH.out.2.1 W (bt HB2.out hb)).ev 0 (by decide) |>.1, fun j u hu => by
    have h := HH.out.2.2.2.2 W (bt HB2.out hb) j u (by
      have hj : j < rows2.length := (List.getElem?_eq_some_iff.1 hu).1
      rw [show rowsE lA = rows2 ++ rowsE [eA3, eA4] from rfl, List.getElem?_append_left hj]
      exact hu)
    rwa [show (⟨g, 0, none⟩ : Addr).add j = ⟨g, 0 + j, none⟩ from by unfold Addr.add; split <;> simp_all]⟩⟩)
  clear HB2 HH
  --REGION5
  refine wp_region_mask (fun w' => Below wb.heap.size wb w') 52 53 [false, false, false, false, false, false, false, false, false, false, false, false, false, false, false, false, false, false, false, false, false, false, false, false, false, false, false, false, false, false, false, false, false, false, false, false, false, false, false, false, false, false, false, false, false, false, false, false, false, false, false, false, false] #[false, false, false, false, false, false, false, false, false, false, false, false, false, false, false, false, false, false, false, false, false, false, false, false, false, false, false, false, false, false, false, false, false, false, false, false, false, false, false, false, false, false, false, false, false, false, false, false, false, false, false, false, false] (by kernel_rfl) (by kernel_rfl) (by kernel_rfl) (br wb).drew ?_
  have HB0 := Lib.hid (show Below wb.heap.size wb wb.drew from (br wb).drew)
  generalize wb.drew = w0 at *
  iterate 53 refine wpMask_skip ?_
  refine wpMask_nil ?_
  refine wpAnyS_ready (rs := [0]) (by kernel_rfl) (by simp) ?_
  refine AllReadyS.cons rfl (fun K hK => ?_) AllReadyS.nil
  go_simp
  refine (HE0.out w0).mono ?_
  rintro e1 w1 ⟨rfl, hb1⟩
  have HB1 := Lib.hid (bt HB0.out hb1)
  refine hK.out _ _ (fun _ => HB1.out) ?_
  clear hK K hb1
  simp only [Act.put, List.getElem_toArray, List.getElem_cons_succ, List.getElem_cons_zero, List.setIfInBounds_toArray, List.set_cons_zero, List.set_cons_succ]
  refine wpAnyS_take (i := 1) (.bool true) rfl (by kernel_rfl) (Or.inl ⟨by rfl, fun w' hS => by clear hS; go_simp; try with_reducible rfl⟩) HB1.out ?_
  simp only [Act.put, List.getElem_toArray, List.getElem_cons_succ, List.getElem_cons_zero, List.setIfInBounds_toArray, List.set_cons_zero, List.set_cons_succ]
  refine wpAnyS_take (i := 2) (.bool true) rfl (by kernel_rfl) (Or.inl ⟨by rfl, fun w' hS => by clear hS; go_simp; try with_reducible rfl⟩) HB1.out ?_
  simp only [Act.put, List.getElem_toArray, List.getElem_cons_succ, List.getElem_cons_zero, List.setIfInBounds_toArray, List.set_cons_zero, List.set_cons_succ]
  refine wpAnyS_ready (rs := [3]) (by kernel_rfl) (by simp) ?_
  refine AllReadyS.cons rfl (fun K hK => ?_) AllReadyS.nil
  go_simp
  refine (HV0.out w1).mono ?_
  rintro e2 w2 ⟨rfl, hb2⟩
  have HB2 := Lib.hid (bt HB1.out hb2)
  refine hK.out _ _ (fun _ => HB2.out) ?_
  clear hK K hb2
  simp only [Act.put, List.getElem_toArray, List.getElem_cons_succ, List.getElem_cons_zero, List.setIfInBounds_toArray, List.set_cons_zero, List.set_cons_succ]
  refine wpAnyS_take (i := 4) (.bool true) rfl (by kernel_rfl) (Or.inl ⟨by rfl, fun w' hS => by clear hS; go_simp; try with_reducible rfl⟩) HB2.out ?_
  simp only [Act.put, List.getElem_toArray, List.getElem_cons_succ, List.getElem_cons_zero, List.setIfInBounds_toArray, List.set_cons_zero, List.set_cons_succ]
  refine wpAnyS_take (i := 5) (.bool true) rfl (by kernel_rfl) (Or.inl ⟨by rfl, fun w' hS => by clear hS; go_simp; try with_reducible rfl⟩) HB2.out ?_
  simp only [Act.put, List.getElem_toArray, List.getElem_cons_succ, List.getElem_cons_zero, List.setIfInBounds_toArray, List.set_cons_zero, List.set_cons_succ]
  refine wpAnyS_take (i := 6) (.bool true) rfl (by kernel_rfl) (Or.inl ⟨by rfl, fun w' hS => by clear hS; go_simp; try with_reducible rfl⟩) HB2.out ?_
  simp only [Act.put, List.getElem_toArray, List.getElem_cons_succ, List.getElem_cons_zero, List.setIfInBounds_toArray, List.set_cons_zero, List.set_cons_succ]
  refine wpAnyS_take (i := 7) _ rfl (by kernel_rfl) (Or.inl ⟨by rfl, fun w' hS => by clear hS; go_simp; try with_reducible rfl⟩) HB2.out ?_
  simp only [Act.put, List.getElem_toArray, List.getElem_cons_succ, List.getElem_cons_zero, List.setIfInBounds_toArray, List.set_cons_zero, List.set_cons_succ]
  refine wpAnyS_ready (rs := [8]) (by kernel_rfl) (by simp) ?_
  refine AllReadyS.cons rfl (fun K hK => ?_) AllReadyS.nil
  go_simp
  refine (HE4.out _ HB2.out).mono ?_
  rintro e3 w3 ⟨rfl, hb3⟩
  have HB3 := Lib.hid (bt HB2.out hb3)
  refine hK.out _ _ (fun _ => HB3.out) ?_
  clear hK K hb3
  simp only [Act.put, List.getElem_toArray, List.getElem_cons_succ, List.getElem_cons_zero, List.setIfInBounds_toArray, List.set_cons_zero, List.set_cons_succ]
  refine wpAnyS_take (i := 9) (.bool true) rfl (by kernel_rfl) (Or.inl ⟨by rfl, fun w' hS => by clear hS; go_simp; try with_reducible rfl⟩) HB3.out ?_
  simp only [Act.put, List.getElem_toArray, List.getElem_cons_succ, List.getElem_cons_zero, List.setIfInBounds_toArray, List.set_cons_zero, List.set_cons_succ]
  refine wpAnyS_take (i := 10) (.bool true) rfl (by kernel_rfl) (Or.inl ⟨by rfl, fun w' hS => by clear hS; go_simp; try with_reducible rfl⟩) HB3.out ?_
  simp only [Act.put, List.getElem_toArray, List.getElem_cons_succ, List.getElem_cons_zero, List.setIfInBounds_toArray, List.set_cons_zero, List.set_cons_succ]
  refine wpAnyS_take (i := 11) (.bool true) rfl (by kernel_rfl) (Or.inl ⟨by rfl, fun w' hS => by clear hS; go_simp; try with_reducible rfl⟩) HB3.out ?_
  simp only [Act.put, List.getElem_toArray, List.getElem_cons_succ, List.getElem_cons_zero, List.setIfInBounds_toArray, List.set_cons_zero, List.set_cons_succ]
  refine wpAnyS_take (i := 12) _ rfl (by kernel_rfl) (Or.inl ⟨by rfl, fun w' hS => by clear hS; go_simp; try with_reducible rfl⟩) HB3.out ?_
  simp only [Act.put, List.getElem_toArray, List.getElem_cons_succ, List.getElem_cons_zero, List.setIfInBounds_toArray, List.set_cons_zero, List.set_cons_succ]
  refine wpAnyS_take (i := 13) _ rfl (by kernel_rfl) (Or.inl ⟨by rfl, fun w' hS => by clear hS; go_simp; try with_reducible rfl⟩) HB3.out ?_
  simp only [Act.put, List.getElem_toArray, List.getElem_cons_succ, List.getElem_cons_zero, List.setIfInBounds_toArray, List.set_cons_zero, List.set_cons_succ]
  refine wpAnyS_ready (rs := [14]) (by kernel_rfl) (by simp) ?_
  refine AllReadyS.cons rfl (fun K hK => ?_) AllReadyS.nil
  go_simp
  refine (HE2.out _ HB3.out).mono ?_
  rintro e4 w4 ⟨rfl, hb4⟩
  have HB4 := Lib.hid (bt HB3.out hb4)
  refine hK.out _ _ (fun _ => HB4.out) ?_
  clear hK K hb4
  simp only [Act.put, List.getElem_toArray, List.getElem_cons_succ, List.getElem_cons_zero, List.setIfInBounds_toArray, List.set_cons_zero, List.set_cons_succ]
  refine wpAnyS_take (i := 15) (.bool true) rfl (by kernel_rfl) (Or.inl ⟨by rfl, fun w' hS => by clear hS; go_simp; try with_reducible rfl⟩) HB4.out ?_
  simp only [Act.put, List.getElem_toArray, List.getElem_cons_succ, List.getElem_cons_zero, List.setIfInBounds_toArray, List.set_cons_zero, List.set_cons_succ]
  refine wpAnyS_take (i := 16) (.bool true) rfl (by kernel_rfl) (Or.inl ⟨by rfl, fun w' hS => by clear hS; go_simp; try with_reducible rfl⟩) HB4.out ?_
  simp only [Act.put, List.getElem_toArray, List.getElem_cons_succ, List.getElem_cons_zero, List.setIfInBounds_toArray, List.set_cons_zero, List.set_cons_succ]
  refine wpAnyS_take (i := 17) (.bool true) rfl (by kernel_rfl) (Or.inl ⟨by rfl, fun w' hS => by clear hS; go_simp; try with_reducible rfl⟩) HB4.out ?_
  simp only [Act.put, List.getElem_toArray, List.getElem_cons_succ, List.getElem_cons_zero, List.setIfInBounds_toArray, List.set_cons_zero, List.set_cons_succ]
  refine wpAnyS_take (i := 19) _ rfl (by kernel_rfl) (Or.inl ⟨by rfl, fun w' hS => by clear hS; go_simp; try with_reducible rfl⟩) HB4.out ?_
  simp only [Act.put, List.getElem_toArray, List.getElem_cons_succ, List.getElem_cons_zero, List.setIfInBounds_toArray, List.set_cons_zero, List.set_cons_succ]
  refine wpAnyS_take (i := 20) _ rfl (by kernel_rfl) (Or.inl ⟨by rfl, fun w' hS => by clear hS; go_simp; try with_reducible rfl⟩) HB4.out ?_
  simp only [Act.put, List.getElem_toArray, List.getElem_cons_succ, List.getElem_cons_zero, List.setIfInBounds_toArray, List.set_cons_zero, List.set_cons_succ]
  refine wpAnyS_take (i := 22) _ rfl (by kernel_rfl) (Or.inl ⟨by rfl, fun w' hS => by clear hS; go_simp; try with_reducible rfl⟩) HB4.out ?_
  simp only [Act.put, List.getElem_toArray, List.getElem_cons_succ, List.getElem_cons_zero, List.setIfInBounds_toArray, List.set_cons_zero, List.set_cons_succ]
  refine wpAnyS_take (i := 23) _ rfl (by kernel_rfl) (Or.inl ⟨by rfl, fun w' hS => by clear hS; go_simp; try with_reducible rfl⟩) HB4.out ?_
  simp only [Act.put, List.getElem_toArray, List.getElem_cons_succ, List.getElem_cons_zero, List.setIfInBounds_toArray, List.set_cons_zero, List.set_cons_succ]
  refine wpAnyS_take (i := 24) _ rfl (by kernel_rfl) (yieldsIf_load_mid (by rfl) 36 (.tmp 46) rfl g 57 rfl (evA eA4).toList _ (fun w' hS => HR4.out w' hS) Tryz.underlying36 rfl (by kernel_rfl)) HB4.out ?_
  simp only [Act.put, List.getElem_toArray, List.getElem_cons_succ, List.getElem_cons_zero, List.setIfInBounds_toArray, List.set_cons_zero, List.set_cons_succ]
  simp only [Array.toArray_toList]
  have hXs : (evA eA4).size = 19 := rfl
  have hX1 : ∀ u ∈ (evA eA4).toList, u.oneCell' = true := evA4_one
  obtain ⟨i0, hi, hz0, hz1, hz2⟩ := info_parts infoE27
  clear HE0 HV0 HE4 HE2
  refine wpAnyS_ready (rs := [18, 25]) (by kernel_rfl) (by simp) ?_
  refine AllReadyS.cons rfl (fun K hK => ?_) ?_
  · -- the empty slice first
    go_simp
    have HB5 := Lib.hid (ba HB4.out (.cells #[] 36))
    refine hK.out _ _ (fun _ => HB5.out) ?_
    clear hK K
    simp only [Act.put, List.getElem_toArray, List.getElem_cons_succ, List.getElem_cons_zero, List.setIfInBounds_toArray, List.set_cons_zero, List.set_cons_succ]
    have own1 := ownNil w4 wb.heap.size 36 19 HB4.out.size
    refine wpAnyS_ready (rs := [21, 25]) (by kernel_rfl) (by simp) ?_
    refine AllReadyS.cons rfl (fun K hK => ?_) ?_
    · -- the first append next
      rw [if_pos (by rfl)]
      refine wp_append_any _ (.tmp 41) (.tmp 43) 22 rfl wb.heap.size 36 i0 _ 19 200 Tryz.underlying22 hi hz0 hz1 hz2 rfl (by decide) _ 0 [] rfl own1 _ _ 2 _ rows2 rfl (HRD.out _ HB5.out) rows2_one (by decide) (by decide) HB5.out.size ?_
      intro v6 w6 ho6 hg6 hu6
      have HB6 := Lib.hid (grownB HB5.out HB5.out.size hg6 (fun b hb => (own1.lt b hb).1))
      refine hK.out _ _ (fun _ => HB6.out) ?_
      clear hK K
      simp only [Act.put, List.getElem_toArray, List.getElem_cons_succ, List.getElem_cons_zero, List.setIfInBounds_toArray, List.set_cons_zero, List.set_cons_succ]
      refine wpAnyS_ready (rs := [25]) (by kernel_rfl) (by simp) ?_
      refine AllReadyS.cons rfl (fun K hK => ?_) AllReadyS.nil
      rw [if_pos (by rfl)]
      refine wp_buildSlice_row 22 (.tmp 47) rfl 36 i0 _ Tryz.underlying22 hi hz0 (evA eA4) rfl (by rw [hz1, hXs]) (by omega) (by omega) ?_
      have HB7 := Lib.hid (ba HB6.out (.cells (evA eA4) 36))
      refine hK.out _ _ (fun _ => HB7.out) ?_
      clear hK K
      simp only [Act.put, List.getElem_toArray, List.getElem_cons_succ, List.getElem_cons_zero, List.setIfInBounds_toArray, List.set_cons_zero, List.set_cons_succ]
      have ownX := ownOne w6 wb.heap.size 36 (evA eA4) 19 hXs HB6.out.size
      refine wpAnyS_ready (rs := [26]) (by kernel_rfl) (by simp) ?_
      refine AllReadyS.cons rfl (fun K hK => ?_) AllReadyS.nil
      rw [if_pos (by rfl)]
      refine wp_append_any _ (.tmp 44) (.tmp 48) 22 rfl wb.heap.size 36 i0 _ 19 200 Tryz.underlying22 hi hz0 hz1 hz2 rfl (by decide) _ (0 + 2) ([] ++ rows2) rfl (ho6.alloc _) _ _ 1 1 (evA eA4).toList rfl (Reads.of_own ownX) hX1 (by decide) (by decide) HB7.out.size ?_
      intro v8 w8 ho8 hg8 hu8
      have HB8 := Lib.hid (grownB HB7.out HB7.out.size hg8 (fun b hb => (ho6.lt b hb).1))
      refine hK.out _ _ (fun _ => HB8.out) ?_
      clear hK K
      simp only [Act.put, List.getElem_toArray, List.getElem_cons_succ, List.getElem_cons_zero, List.setIfInBounds_toArray, List.set_cons_zero, List.set_cons_succ]
      rw [rows3_eq] at ho8
      have ho8 : w8.ownsRow wb.heap.size 36 19 v8 3 (rowsE [eA1, eA2, eA4]) := ho8
      obtain ⟨ad8, cap8, rfl⟩ := ownForm ho8
      have HE3 := Lib.hid (evs_row _ ad8 cap8 ho8)
      clear ho8
      refine wpAnyS_ready (rs := [27]) (by kernel_rfl) (by simp) ?_
      refine AllReadyS.cons rfl (fun K hK => ?_) AllReadyS.nil
      go_simp
      refine (HE3.out).mono ?_
      rintro e9 w9 ⟨rfl, hb9⟩
      have HB9 := Lib.hid (bt HB8.out hb9)
      refine hK.out _ _ (fun _ => HB9.out) ?_
      clear hK K hb9
      simp only [Act.put, List.getElem_toArray, List.getElem_cons_succ, List.getElem_cons_zero, List.setIfInBounds_toArray, List.set_cons_zero, List.set_cons_succ]
      clear HE3
      refine wpAnyS_take (i := 28) (.bool true) rfl (by kernel_rfl) (Or.inl ⟨by rfl, fun w' hS => by clear hS; go_simp; try with_reducible rfl⟩) HB9.out ?_
      simp only [Act.put, List.getElem_toArray, List.getElem_cons_succ, List.getElem_cons_zero, List.setIfInBounds_toArray, List.set_cons_zero, List.set_cons_succ]
      refine wpAnyS_take (i := 29) (.bool true) rfl (by kernel_rfl) (Or.inl ⟨by rfl, fun w' hS => by clear hS; go_simp; try with_reducible rfl⟩) HB9.out ?_
      simp only [Act.put, List.getElem_toArray, List.getElem_cons_succ, List.getElem_cons_zero, List.setIfInBounds_toArray, List.set_cons_zero, List.set_cons_succ]
      refine wpAnyS_take (i := 30) (.bool true) rfl (by kernel_rfl) (Or.inl ⟨by rfl, fun w' hS => by clear hS; go_simp; try with_reducible rfl⟩) HB9.out ?_
      simp only [Act.put, List.getElem_toArray, List.getElem_cons_succ, List.getElem_cons_zero, List.setIfInBounds_toArray, List.set_cons_zero, List.set_cons_succ]
      refine wpAnyS_take (i := 31) _ rfl (by kernel_rfl) (Or.inl ⟨by rfl, fun w' hS => by clear hS; go_simp; try with_reducible rfl⟩) HB9.out ?_
      simp only [Act.put, List.getElem_toArray, List.getElem_cons_succ, List.getElem_cons_zero, List.setIfInBounds_toArray, List.set_cons_zero, List.set_cons_succ]
      refine wpAnyS_take (i := 32) _ rfl (by kernel_rfl) (Or.inl ⟨by rfl, fun w' hS => by clear hS; go_simp; try with_reducible rfl⟩) HB9.out ?_
      simp only [Act.put, List.getElem_toArray, List.getElem_cons_succ, List.getElem_cons_zero, List.setIfInBounds_toArray, List.set_cons_zero, List.set_cons_succ]
      refine wpAnyS_ready (rs := [33]) (by kernel_rfl) (by simp) ?_
      refine AllReadyS.cons rfl (fun K hK => ?_) AllReadyS.nil
      go_simp
      refine (HE1.out _ HB9.out).mono ?_
      rintro e10 w10 ⟨rfl, hb10⟩
      have HB10 := Lib.hid (bt HB9.out hb10)
      refine hK.out _ _ (fun _ => HB10.out) ?_
      clear hK K hb10
      simp only [Act.put, List.getElem_toArray, List.getElem_cons_succ, List.getElem_cons_zero, List.setIfInBounds_toArray, List.set_cons_zero, List.set_cons_succ]
      refine wpAnyS_take (i := 34) (.bool true) rfl (by kernel_rfl) (Or.inl ⟨by rfl, fun w' hS => by clear hS; go_simp; try with_reducible rfl⟩) HB10.out ?_
      simp only [Act.put, List.getElem_toArray, List.getElem_cons_succ, List.getElem_cons_zero, List.setIfInBounds_toArray, List.set_cons_zero, List.set_cons_succ]
      refine wpAnyS_take (i := 35) (.bool true) rfl (by kernel_rfl) (Or.inl ⟨by rfl, fun w' hS => by clear hS; go_simp; try with_reducible rfl⟩) HB10.out ?_
      simp only [Act.put, List.getElem_toArray, List.getElem_cons_succ, List.getElem_cons_zero, List.setIfInBounds_toArray, List.set_cons_zero, List.set_cons_succ]
      refine wpAnyS_take (i := 36) (.bool true) rfl (by kernel_rfl) (Or.inl ⟨by rfl, fun w' hS => by clear hS; go_simp; try with_reducible rfl⟩) HB10.out ?_
      simp only [Act.put, List.getElem_toArray, List.getElem_cons_succ, List.getElem_cons_zero, List.setIfInBounds_toArray, List.set_cons_zero, List.set_cons_succ]
      refine wpAnyS_take (i := 37) (.agg (evA eA9)) rfl (by kernel_rfl) (Or.inl ⟨by rfl, fun w' hS => by clear hS; go_simp; rfl⟩) HB10.out ?_
      simp only [Act.put, List.getElem_toArray, List.getElem_cons_succ, List.getElem_cons_zero, List.setIfInBounds_toArray, List.set_cons_zero, List.set_cons_succ]
      refine wpAnyS_ready (rs := [38]) (by kernel_rfl) (by simp) ?_
      refine AllReadyS.cons rfl (fun K hK => ?_) AllReadyS.nil
      rw [if_pos (by rfl)]
      refine wp_buildSlice_row 22 (.tmp 60) rfl 36 i0 _ Tryz.underlying22 hi hz0 (evA eA9) rfl (by rw [hz1]; rfl) (by decide) (by decide) ?_
      have HV9 := Lib.hid (views_row w10)
      have HB11 := Lib.hid (ba HB10.out (.cells (evA eA9) 36))
      refine hK.out _ _ (fun _ => HB11.out) ?_
      clear hK K
      simp only [Act.put, List.getElem_toArray, List.getElem_cons_succ, List.getElem_cons_zero, List.setIfInBounds_toArray, List.set_cons_zero, List.set_cons_succ]
      refine wpAnyS_ready (rs := [39]) (by kernel_rfl) (by simp) ?_
      refine AllReadyS.cons rfl (fun K hK => ?_) AllReadyS.nil
      go_simp
      refine (HV9.out).mono ?_
      rintro e12 w12 ⟨rfl, hb12⟩
      have HB12 := Lib.hid (bt HB11.out hb12)
      refine hK.out _ _ (fun _ => HB12.out) ?_
      clear hK K hb12
      simp only [Act.put, List.getElem_toArray, List.getElem_cons_succ, List.getElem_cons_zero, List.setIfInBounds_toArray, List.set_cons_zero, List.set_cons_succ]
      refine wpAnyS_take (i := 40) (.bool true) rfl (by kernel_rfl) (Or.inl ⟨by rfl, fun w' hS => by clear hS; go_simp; try with_reducible rfl⟩) HB12.out ?_
      simp only [Act.put, List.getElem_toArray, List.getElem_cons_succ, List.getElem_cons_zero, List.setIfInBounds_toArray, List.set_cons_zero, List.set_cons_succ]
      refine wpAnyS_take (i := 41) (.bool true) rfl (by kernel_rfl) (Or.inl ⟨by rfl, fun w' hS => by clear hS; go_simp; try with_reducible rfl⟩) HB12.out ?_
      simp only [Act.put, List.getElem_toArray, List.getElem_cons_succ, List.getElem_cons_zero, List.setIfInBounds_toArray, List.set_cons_zero, List.set_cons_succ]
      refine wpAnyS_take (i := 42) (.bool true) rfl (by kernel_rfl) (Or.inl ⟨by rfl, fun w' hS => by clear hS; go_simp; try with_reducible rfl⟩) HB12.out ?_
      simp only [Act.put, List.getElem_toArray, List.getElem_cons_succ, List.getElem_cons_zero, List.setIfInBounds_toArray, List.set_cons_zero, List.set_cons_succ]
      refine wpAnyS_take (i := 43) _ rfl (by kernel_rfl) (Or.inl ⟨by rfl, fun w' hS => by clear hS; go_simp; try with_reducible rfl⟩) HB12.out ?_
      simp only [Act.put, List.getElem_toArray, List.getElem_cons_succ, List.getElem_cons_zero, List.setIfInBounds_toArray, List.set_cons_zero, List.set_cons_succ]
      refine wpAnyS_take (i := 44) (.int .i64 0) rfl (by kernel_rfl) (Or.inl ⟨by rfl, fun w' hS => by clear hS; go_simp; try with_reducible rfl⟩) HB12.out ?_
      simp only [Act.put, List.getElem_toArray, List.getElem_cons_succ, List.getElem_cons_zero, List.setIfInBounds_toArray, List.set_cons_zero, List.set_cons_succ]
      refine wpAnyS_take (i := 45) (.bool true) rfl (by kernel_rfl) (Or.inl ⟨by rfl, fun w' hS => by clear hS; go_simp; try with_reducible rfl⟩) HB12.out ?_
      simp only [Act.put, List.getElem_toArray, List.getElem_cons_succ, List.getElem_cons_zero, List.setIfInBounds_toArray, List.set_cons_zero, List.set_cons_succ]
      refine wpAnyS_take (i := 46) (.bool true) rfl (by kernel_rfl) (Or.inl ⟨by rfl, fun w' hS => by clear hS; go_simp; try with_reducible rfl⟩) HB12.out ?_
      simp only [Act.put, List.getElem_toArray, List.getElem_cons_succ, List.getElem_cons_zero, List.setIfInBounds_toArray, List.set_cons_zero, List.set_cons_succ]
      refine wpAnyS_take (i := 47) (.bool true) rfl (by kernel_rfl) (Or.inl ⟨by rfl, fun w' hS => by clear hS; go_simp; try with_reducible rfl⟩) HB12.out ?_
      simp only [Act.put, List.getElem_toArray, List.getElem_cons_succ, List.getElem_cons_zero, List.setIfInBounds_toArray, List.set_cons_zero, List.set_cons_succ]
      refine wpAnyS_take (i := 48) _ rfl (by kernel_rfl) (Or.inl ⟨by rfl, fun w' hS => by clear hS; go_simp; try with_reducible rfl⟩) HB12.out ?_
      simp only [Act.put, List.getElem_toArray, List.getElem_cons_succ, List.getElem_cons_zero, List.setIfInBounds_toArray, List.set_cons_zero, List.set_cons_succ]
      refine wpAnyS_take (i := 49) (.int .i64 0) rfl (by kernel_rfl) (Or.inl ⟨by rfl, fun w' hS => by clear hS; go_simp; try with_reducible rfl⟩) HB12.out ?_
      simp only [Act.put, List.getElem_toArray, List.getElem_cons_succ, List.getElem_cons_zero, List.setIfInBounds_toArray, List.set_cons_zero, List.set_cons_succ]
      refine wpAnyS_take (i := 50) (.bool true) rfl (by kernel_rfl) (Or.inl ⟨by rfl, fun w' hS => by clear hS; go_simp; try with_reducible rfl⟩) HB12.out ?_
      simp only [Act.put, List.getElem_toArray, List.getElem_cons_succ, List.getElem_cons_zero, List.setIfInBounds_toArray, List.set_cons_zero, List.set_cons_succ]
      refine wpAnyS_take (i := 51) (.bool true) rfl (by kernel_rfl) (Or.inl ⟨by rfl, fun w' hS => by clear hS; go_simp; try with_reducible rfl⟩) HB12.out ?_
      simp only [Act.put, List.getElem_toArray, List.getElem_cons_succ, List.getElem_cons_zero, List.setIfInBounds_toArray, List.set_cons_zero, List.set_cons_succ]
      refine wpAnyS_ready (rs := [52]) (by kernel_rfl) (by simp) ?_
      refine AllReadyS.cons rfl (fun K hK => ?_) AllReadyS.nil
      go_simp
      refine hK.out _ _ (fun h => absurd h (by omega)) ?_
      clear hK K
      simp only [Act.put, List.getElem_toArray, List.getElem_cons_succ, List.getElem_cons_zero, List.setIfInBounds_toArray, List.set_cons_zero, List.set_cons_succ]
      refine wpAnyS_done (by kernel_rfl) ?_ _
      go_wp2_with fail
      go_ret
      exact ⟨rfl, bt HB.out HB12.out⟩
    refine AllReadyS.cons rfl (fun K hK => ?_) AllReadyS.nil
    rw [if_pos (by rfl)]
    refine wp_buildSlice_row 22 (.tmp 47) rfl 36 i0 _ Tryz.underlying22 hi hz0 (evA eA4) rfl (by rw [hz1, hXs]) (by omega) (by omega) ?_
    have HB6 := Lib.hid (ba HB5.out (.cells (evA eA4) 36))
    refine hK.out _ _ (fun _ => HB6.out) ?_
    clear hK K
    simp only [Act.put, List.getElem_toArray, List.getElem_cons_succ, List.getElem_cons_zero, List.setIfInBounds_toArray, List.set_cons_zero, List.set_cons_succ]
    have ownX := ownOne _ wb.heap.size 36 (evA eA4) 19 hXs HB5.out.size
    refine wpAnyS_ready (rs := [21]) (by kernel_rfl) (by simp) ?_
    refine AllReadyS.cons rfl (fun K hK => ?_) AllReadyS.nil
    rw [if_pos (by rfl)]
    refine wp_append_any _ (.tmp 41) (.tmp 43) 22 rfl wb.heap.size 36 i0 _ 19 200 Tryz.underlying22 hi hz0 hz1 hz2 rfl (by decide) _ 0 [] rfl (own1.alloc _) _ _ 2 _ rows2 rfl (HRD.out _ HB6.out) rows2_one (by decide) (by decide) HB6.out.size ?_
    intro v6 w6 ho6 hg6 hu6
    have HB7 := Lib.hid (grownB HB6.out HB6.out.size hg6 (fun b hb => (own1.lt b hb).1))
    refine hK.out _ _ (fun _ => HB7.out) ?_
    clear hK K
    simp only [Act.put, List.getElem_toArray, List.getElem_cons_succ, List.getElem_cons_zero, List.setIfInBounds_toArray, List.set_cons_zero, List.set_cons_succ]
    have ownX6 := ownX.kept hg6 (.inr (fun e => by
        have e2 := Option.some.inj (show some (w4.alloc (.cells #[] 36)).heap.size = some w4.heap.size from e)
        simp at e2))
    refine wpAnyS_ready (rs := [26]) (by kernel_rfl) (by simp) ?_
    refine AllReadyS.cons rfl (fun K hK => ?_) AllReadyS.nil
    rw [if_pos (by rfl)]
    refine wp_append_any _ (.tmp 44) (.tmp 48) 22 rfl wb.heap.size 36 i0 _ 19 200 Tryz.underlying22 hi hz0 hz1 hz2 rfl (by decide) _ (0 + 2) ([] ++ rows2) rfl ho6 _ _ 1 1 (evA eA4).toList rfl (Reads.of_own ownX6) hX1 (by decide) (by decide) HB7.out.size ?_
    intro v8 w8 ho8 hg8 hu8
    have HB8 := Lib.hid (grownB HB7.out HB7.out.size hg8 (fun b hb => (ho6.lt b hb).1))
    refine hK.out _ _ (fun _ => HB8.out) ?_
    clear hK K
    simp only [Act.put, List.getElem_toArray, List.getElem_cons_succ, List.getElem_cons_zero, List.setIfInBounds_toArray, List.set_cons_zero, List.set_cons_succ]
    rw [rows3_eq] at ho8
    have ho8 : w8.ownsRow wb.heap.size 36 19 v8 3 (rowsE [eA1, eA2, eA4]) := ho8
    obtain ⟨ad8, cap8, rfl⟩ := ownForm ho8
    have HE3 := Lib.hid (evs_row _ ad8 cap8 ho8)
    clear ho8
    refine wpAnyS_ready (rs := [27]) (by kernel_rfl) (by simp) ?_
    refine AllReadyS.cons rfl (fun K hK => ?_) AllReadyS.nil
    go_simp
    refine (HE3.out).mono ?_
    rintro e9 w9 ⟨rfl, hb9⟩
    have HB9 := Lib.hid (bt HB8.out hb9)
    refine hK.out _ _ (fun _ => HB9.out) ?_
    clear hK K hb9
    simp only [Act.put, List.getElem_toArray, List.getElem_cons_succ, List.getElem_cons_zero, List.setIfInBounds_toArray, List.set_cons_zero, List.set_cons_succ]
    clear HE3
    refine wpAnyS_take (i := 28) (.bool true) rfl (by kernel_rfl) (Or.inl ⟨by rfl, fun w' hS => by clear hS; go_simp; try with_reducible rfl⟩) HB9.out ?_
    simp only [Act.put, List.getElem_toArray, List.getElem_cons_succ, List.getElem_cons_zero, List.setIfInBounds_toArray, List.set_cons_zero, List.set_cons_succ]
    refine wpAnyS_take (i := 29) (.bool true) rfl (by kernel_rfl) (Or.inl ⟨by rfl, fun w' hS => by clear hS; go_simp; try with_reducible rfl⟩) HB9.out ?_
    simp only [Act.put, List.getElem_toArray, List.getElem_cons_succ, List.getElem_cons_zero, List.setIfInBounds_toArray, List.set_cons_zero, List.set_cons_succ]
    refine wpAnyS_take (i := 30) (.bool true) rfl (by kernel_rfl) (Or.inl ⟨by rfl, fun w' hS => by clear hS; go_simp; try with_reducible rfl⟩) HB9.out ?_
    simp only [Act.put, List.getElem_toArray, List.getElem_cons_succ, List.getElem_cons_zero, List.setIfInBounds_toArray, List.set_cons_zero, List.set_cons_succ]
    refine wpAnyS_take (i := 31) _ rfl (by kernel_rfl) (Or.inl ⟨by rfl, fun w' hS => by clear hS; go_simp; try with_reducible rfl⟩) HB9.out ?_
    simp only [Act.put, List.getElem_toArray, List.getElem_cons_succ, List.getElem_cons_zero, List.setIfInBounds_toArray, List.set_cons_zero, List.set_cons_succ]
    refine wpAnyS_take (i := 32) _ rfl (by kernel_rfl) (Or.inl ⟨by rfl, fun w' hS => by clear hS; go_simp; try with_reducible rfl⟩) HB9.out ?_
    simp only [Act.put, List.getElem_toArray, List.getElem_cons_succ, List.getElem_cons_zero, List.setIfInBounds_toArray, List.set_cons_zero, List.set_cons_succ]
    refine wpAnyS_ready (rs := [33]) (by kernel_rfl) (by simp) ?_
    refine AllReadyS.cons rfl (fun K hK => ?_) AllReadyS.nil
    go_simp
    refine (HE1.out _ HB9.out).mono ?_
    rintro e10 w10 ⟨rfl, hb10⟩
    have HB10 := Lib.hid (bt HB9.out hb10)
    refine hK.out _ _ (fun _ => HB10.out) ?_
    clear hK K hb10
    simp only [Act.put, List.getElem_toArray, List.getElem_cons_succ, List.getElem_cons_zero, List.setIfInBounds_toArray, List.set_cons_zero, List.set_cons_succ]
    refine wpAnyS_take (i := 34) (.bool true) rfl (by kernel_rfl) (Or.inl ⟨by rfl, fun w' hS => by clear hS; go_simp; try with_reducible rfl⟩) HB10.out ?_
    simp only [Act.put, List.getElem_toArray, List.getElem_cons_succ, List.getElem_cons_zero, List.setIfInBounds_toArray, List.set_cons_zero, List.set_cons_succ]
    refine wpAnyS_take (i := 35) (.bool true) rfl (by kernel_rfl) (Or.inl ⟨by rfl, fun w' hS => by clear hS; go_simp; try with_reducible rfl⟩) HB10.out ?_
    simp only [Act.put, List.getElem_toArray, List.getElem_cons_succ, List.getElem_cons_zero, List.setIfInBounds_toArray, List.set_cons_zero, List.set_cons_succ]
    refine wpAnyS_take (i := 36) (.bool true) rfl (by kernel_rfl) (Or.inl ⟨by rfl, fun w' hS => by clear hS; go_simp; try with_reducible rfl⟩) HB10.out ?_
    simp only [Act.put, List.getElem_toArray, List.getElem_cons_succ, List.getElem_cons_zero, List.setIfInBounds_toArray, List.set_cons_zero, List.set_cons_succ]
    refine wpAnyS_take (i := 37) (.agg (evA eA9)) rfl (by kernel_rfl) (Or.inl ⟨by rfl, fun w' hS => by clear hS; go_simp; rfl⟩) HB10.out ?_
    simp only [Act.put, List.getElem_toArray, List.getElem_cons_succ, List.getElem_cons_zero, List.setIfInBounds_toArray, List.set_cons_zero, List.set_cons_succ]
    refine wpAnyS_ready (rs := [38]) (by kernel_rfl) (by simp) ?_
    refine AllReadyS.cons rfl (fun K hK => ?_) AllReadyS.nil
    rw [if_pos (by rfl)]
    refine wp_buildSlice_row 22 (.tmp 60) rfl 36 i0 _ Tryz.underlying22 hi hz0 (evA eA9) rfl (by rw [hz1]; rfl) (by decide) (by decide) ?_
    have HV9 := Lib.hid (views_row w10)
    have HB11 := Lib.hid (ba HB10.out (.cells (evA eA9) 36))
    refine hK.out _ _ (fun _ => HB11.out) ?_
    clear hK K
    simp only [Act.put, List.getElem_toArray, List.getElem_cons_succ, List.getElem_cons_zero, List.setIfInBounds_toArray, List.set_cons_zero, List.set_cons_succ]
    refine wpAnyS_ready (rs := [39]) (by kernel_rfl) (by simp) ?_
    refine AllReadyS.cons rfl (fun K hK => ?_) AllReadyS.nil
    go_simp
    refine (HV9.out).mono ?_
    rintro e12 w12 ⟨rfl, hb12⟩
    have HB12 := Lib.hid (bt HB11.out hb12)
    refine hK.out _ _ (fun _ => HB12.out) ?_
    clear hK K hb12
    simp only [Act.put, List.getElem_toArray, List.getElem_cons_succ, List.getElem_cons_zero, List.setIfInBounds_toArray, List.set_cons_zero, List.set_cons_succ]
    refine wpAnyS_take (i := 40) (.bool true) rfl (by kernel_rfl) (Or.inl ⟨by rfl, fun w' hS => by clear hS; go_simp; try with_reducible rfl⟩) HB12.out ?_
    simp only [Act.put, List.getElem_toArray, List.getElem_cons_succ, List.getElem_cons_zero, List.setIfInBounds_toArray, List.set_cons_zero, List.set_cons_succ]
    refine wpAnyS_take (i := 41) (.bool true) rfl (by kernel_rfl) (Or.inl ⟨by rfl, fun w' hS => by clear hS; go_simp; try with_reducible rfl⟩) HB12.out ?_
    simp only [Act.put, List.getElem_toArray, List.getElem_cons_succ, List.getElem_cons_zero, List.setIfInBounds_toArray, List.set_cons_zero, List.set_cons_succ]
    refine wpAnyS_take (i := 42) (.bool true) rfl (by kernel_rfl) (Or.inl ⟨by rfl, fun w' hS => by clear hS; go_simp; try with_reducible rfl⟩) HB12.out ?_
    simp only [Act.put, List.getElem_toArray, List.getElem_cons_succ, List.getElem_cons_zero, List.setIfInBounds_toArray, List.set_cons_zero, List.set_cons_succ]
    refine wpAnyS_take (i := 43) _ rfl (by kernel_rfl) (Or.inl ⟨by rfl, fun w' hS => by clear hS; go_simp; try with_reducible rfl⟩) HB12.out ?_
    simp only [Act.put, List.getElem_toArray, List.getElem_cons_succ, List.getElem_cons_zero, List.setIfInBounds_toArray, List.set_cons_zero, List.set_cons_succ]
    refine wpAnyS_take (i := 44) (.int .i64 0) rfl (by kernel_rfl) (Or.inl ⟨by rfl, fun w' hS => by clear hS; go_simp; try with_reducible rfl⟩) HB12.out ?_
    simp only [Act.put, List.getElem_toArray, List.getElem_cons_succ, List.getElem_cons_zero, List.setIfInBounds_toArray, List.set_cons_zero, List.set_cons_succ]
    refine wpAnyS_take (i := 45) (.bool true) rfl (by kernel_rfl) (Or.inl ⟨by rfl, fun w' hS => by clear hS; go_simp; try with_reducible rfl⟩) HB12.out ?_
    simp only [Act.put, List.getElem_toArray, List.getElem_cons_succ, List.getElem_cons_zero, List.setIfInBounds_toArray, List.set_cons_zero, List.set_cons_succ]
    refine wpAnyS_take (i := 46) (.bool true) rfl (by kernel_rfl) (Or.inl ⟨by rfl, fun w' hS => by clear hS; go_simp; try with_reducible rfl⟩) HB12.out ?_
    simp only [Act.put, List.getElem_toArray, List.getElem_cons_succ, List.getElem_cons_zero, List.setIfInBounds_toArray, List.set_cons_zero, List.set_cons_succ]
    refine wpAnyS_take (i := 47) (.bool true) rfl (by kernel_rfl) (Or.inl ⟨by rfl, fun w' hS => by clear hS; go_simp; try with_reducible rfl⟩) HB12.out ?_
    simp only [Act.put, List.getElem_toArray, List.getElem_cons_succ, List.getElem_cons_zero, List.setIfInBounds_toArray, List.set_cons_zero, List.set_cons_succ]
    refine wpAnyS_take (i := 48) _ rfl (by kernel_rfl) (Or.inl ⟨by rfl, fun w' hS => by clear hS; go_simp; try with_reducible rfl⟩) HB12.out ?_
    simp only [Act.put, List.getElem_toArray, List.getElem_cons_succ, List.getElem_cons_zero, List.setIfInBounds_toArray, List.set_cons_zero, List.set_cons_succ]
    refine wpAnyS_take (i := 49) (.int .i64 0) rfl (by kernel_rfl) (Or.inl ⟨by rfl, fun w' hS => by clear hS; go_simp; try with_reducible rfl⟩) HB12.out ?_
    simp only [Act.put, List.getElem_toArray, List.getElem_cons_succ, List.getElem_cons_zero, List.setIfInBounds_toArray, List.set_cons_zero, List.set_cons_succ]
    refine wpAnyS_take (i := 50) (.bool true) rfl (by kernel_rfl) (Or.inl ⟨by rfl, fun w' hS => by clear hS; go_simp; try with_reducible rfl⟩) HB12.out ?_
    simp only [Act.put, List.getElem_toArray, List.getElem_cons_succ, List.getElem_cons_zero, List.setIfInBounds_toArray, List.set_cons_zero, List.set_cons_succ]
    refine wpAnyS_take (i := 51) (.bool true) rfl (by kernel_rfl) (Or.inl ⟨by rfl, fun w' hS => by clear hS; go_simp; try with_reducible rfl⟩) HB12.out ?_
    simp only [Act.put, List.getElem_toArray, List.getElem_cons_succ, List.getElem_cons_zero, List.setIfInBounds_toArray, List.set_cons_zero, List.set_cons_succ]
    refine wpAnyS_ready (rs := [52]) (by kernel_rfl) (by simp) ?_
    refine AllReadyS.cons rfl (fun K hK => ?_) AllReadyS.nil
    go_simp
    refine hK.out _ _ (fun h => absurd h (by omega)) ?_
    clear hK K
    simp only [Act.put, List.getElem_toArray, List.getElem_cons_succ, List.getElem_cons_zero, List.setIfInBounds_toArray, List.set_cons_zero, List.set_cons_succ]
    refine wpAnyS_done (by kernel_rfl) ?_ _
    go_wp2_with fail
    go_ret
    exact ⟨rfl, bt HB.out HB12.out⟩
  refine AllReadyS.cons rfl (fun K hK => ?_) AllReadyS.nil
  rw [if_pos (by rfl)]
  refine wp_buildSlice_row 22 (.tmp 47) rfl 36 i0 _ Tryz.underlying22 hi hz0 (evA eA4) rfl (by rw [hz1, hXs]) (by omega) (by omega) ?_
  have HB5 := Lib.hid (ba HB4.out (.cells (evA eA4) 36))
  refine hK.out _ _ (fun _ => HB5.out) ?_
  clear hK K
  simp only [Act.put, List.getElem_toArray, List.getElem_cons_succ, List.getElem_cons_zero, List.setIfInBounds_toArray, List.set_cons_zero, List.set_cons_succ]
  have ownX := ownOne w4 wb.heap.size 36 (evA eA4) 19 hXs HB4.out.size
  refine wpAnyS_ready (rs := [18]) (by kernel_rfl) (by simp) ?_
  refine AllReadyS.cons rfl (fun K hK => ?_) AllReadyS.nil
  go_simp
  have HB6 := Lib.hid (ba HB5.out (.cells #[] 36))
  refine hK.out _ _ (fun _ => HB6.out) ?_
  clear hK K
  simp only [Act.put, List.getElem_toArray, List.getElem_cons_succ, List.getElem_cons_zero, List.setIfInBounds_toArray, List.set_cons_zero, List.set_cons_succ]
  have own1 := ownNil _ wb.heap.size 36 19 HB5.out.size
  rw [show (w4.alloc (.cells (evA eA4) 36)).heap.size = w4.heap.size + 1 by simp] at own1
  refine wpAnyS_ready (rs := [21]) (by kernel_rfl) (by simp) ?_
  refine AllReadyS.cons rfl (fun K hK => ?_) AllReadyS.nil
  rw [if_pos (by rfl)]
  refine wp_append_any _ (.tmp 41) (.tmp 43) 22 rfl wb.heap.size 36 i0 _ 19 200 Tryz.underlying22 hi hz0 hz1 hz2 rfl (by decide) _ 0 [] rfl own1 _ _ 2 _ rows2 rfl (HRD.out _ HB6.out) rows2_one (by decide) (by decide) HB6.out.size ?_
  intro v6 w6 ho6 hg6 hu6
  have HB7 := Lib.hid (grownB HB6.out HB6.out.size hg6 (fun b hb => (own1.lt b hb).1))
  refine hK.out _ _ (fun _ => HB7.out) ?_
  clear hK K
  simp only [Act.put, List.getElem_toArray, List.getElem_cons_succ, List.getElem_cons_zero, List.setIfInBounds_toArray, List.set_cons_zero, List.set_cons_succ]
  have ownX6 := (ownX.alloc _).kept hg6 (.inr (fun e => absurd (Option.some.inj (show some w4.heap.size = some (w4.heap.size + 1) from e)) (by omega)))
  refine wpAnyS_ready (rs := [26]) (by kernel_rfl) (by simp) ?_
  refine AllReadyS.cons rfl (fun K hK => ?_) AllReadyS.nil
  rw [if_pos (by rfl)]
  refine wp_append_any _ (.tmp 44) (.tmp 48) 22 rfl wb.heap.size 36 i0 _ 19 200 Tryz.underlying22 hi hz0 hz1 hz2 rfl (by decide) _ (0 + 2) ([] ++ rows2) rfl ho6 _ _ 1 1 (evA eA4).toList rfl (Reads.of_own ownX6) hX1 (by decide) (by decide) HB7.out.size ?_
  intro v8 w8 ho8 hg8 hu8
  have HB8 := Lib.hid (grownB HB7.out HB7.out.size hg8 (fun b hb => (ho6.lt b hb).1))
  refine hK.out _ _ (fun _ => HB8.out) ?_
  clear hK K
  simp only [Act.put, List.getElem_toArray, List.getElem_cons_succ, List.getElem_cons_zero, List.setIfInBounds_toArray, List.set_cons_zero, List.set_cons_succ]
  rw [rows3_eq] at ho8
  have ho8 : w8.ownsRow wb.heap.size 36 19 v8 3 (rowsE [eA1, eA2, eA4]) := ho8
  obtain ⟨ad8, cap8, rfl⟩ := ownForm ho8
  have HE3 := Lib.hid (evs_row _ ad8 cap8 ho8)
  clear ho8
  refine wpAnyS_ready (rs := [27]) (by kernel_rfl) (by simp) ?_
  refine AllReadyS.cons rfl (fun K hK => ?_) AllReadyS.nil
  go_simp
  refine (HE3.out).mono ?_
  rintro e9 w9 ⟨rfl, hb9⟩
  have HB9 := Lib.hid (bt HB8.out hb9)
  refine hK.out _ _ (fun _ => HB9.out) ?_
  clear hK K hb9
  simp only [Act.put, List.getElem_toArray, List.getElem_cons_succ, List.getElem_cons_zero, List.setIfInBounds_toArray, List.set_cons_zero, List.set_cons_succ]
  clear HE3
  refine wpAnyS_take (i := 28) (.bool true) rfl (by kernel_rfl) (Or.inl ⟨by rfl, fun w' hS => by clear hS; go_simp; try with_reducible rfl⟩) HB9.out ?_
  simp only [Act.put, List.getElem_toArray, List.getElem_cons_succ, List.getElem_cons_zero, List.setIfInBounds_toArray, List.set_cons_zero, List.set_cons_succ]
  refine wpAnyS_take (i := 29) (.bool true) rfl (by kernel_rfl) (Or.inl ⟨by rfl, fun w' hS => by clear hS; go_simp; try with_reducible rfl⟩) HB9.out ?_
  simp only [Act.put, List.getElem_toArray, List.getElem_cons_succ, List.getElem_cons_zero, List.setIfInBounds_toArray, List.set_cons_zero, List.set_cons_succ]
  refine wpAnyS_take (i := 30) (.bool true) rfl (by kernel_rfl) (Or.inl ⟨by rfl, fun w' hS => by clear hS; go_simp; try with_reducible rfl⟩) HB9.out ?_
  simp only [Act.put, List.getElem_toArray, List.getElem_cons_succ, List.getElem_cons_zero, List.setIfInBounds_toArray, List.set_cons_zero, List.set_cons_succ]
  refine wpAnyS_take (i := 31) _ rfl (by kernel_rfl) (Or.inl ⟨by rfl, fun w' hS => by clear hS; go_simp; try with_reducible rfl⟩) HB9.out ?_
  simp only [Act.put, List.getElem_toArray, List.getElem_cons_succ, List.getElem_cons_zero, List.setIfInBounds_toArray, List.set_cons_zero, List.set_cons_succ]
  refine wpAnyS_take (i := 32) _ rfl (by kernel_rfl) (Or.inl ⟨by rfl, fun w' hS => by clear hS; go_simp; try with_reducible rfl⟩) HB9.out ?_
  simp only [Act.put, List.getElem_toArray, List.getElem_cons_succ, List.getElem_cons_zero, List.setIfInBounds_toArray, List.set_cons_zero, List.set_cons_succ]
  refine wpAnyS_ready (rs := [33]) (by kernel_rfl) (by simp) ?_
  refine AllReadyS.cons rfl (fun K hK => ?_) AllReadyS.nil
  go_simp
  refine (HE1.out _ HB9.out).mono ?_
  rintro e10 w10 ⟨rfl, hb10⟩
  have HB10 := Lib.hid (bt HB9.out hb10)
  refine hK.out _ _ (fun _ => HB10.out) ?_
  clear hK K hb10
  simp only [Act.put, List.getElem_toArray, List.getElem_cons_succ, List.getElem_cons_zero, List.setIfInBounds_toArray, List.set_cons_zero, List.set_cons_succ]
  refine wpAnyS_take (i := 34) (.bool true) rfl (by kernel_rfl) (Or.inl ⟨by rfl, fun w' hS => by clear hS; go_simp; try with_reducible rfl⟩) HB10.out ?_
  simp only [Act.put, List.getElem_toArray, List.getElem_cons_succ, List.getElem_cons_zero, List.setIfInBounds_toArray, List.set_cons_zero, List.set_cons_succ]
  refine wpAnyS_take (i := 35) (.bool true) rfl (by kernel_rfl) (Or.inl ⟨by rfl, fun w' hS => by clear hS; go_simp; try with_reducible rfl⟩) HB10.out ?_
  simp only [Act.put, List.getElem_toArray, List.getElem_cons_succ, List.getElem_cons_zero, List.setIfInBounds_toArray, List.set_cons_zero, List.set_cons_succ]
  refine wpAnyS_take (i := 36) (.bool true) rfl (by kernel_rfl) (Or.inl ⟨by rfl, fun w' hS => by clear hS; go_simp; try with_reducible rfl⟩) HB10.out ?_
  simp only [Act.put, List.getElem_toArray, List.getElem_cons_succ, List.getElem_cons_zero, List.setIfInBounds_toArray, List.set_cons_zero, List.set_cons_succ]
  refine wpAnyS_take (i := 37) (.agg (evA eA9)) rfl (by kernel_rfl) (Or.inl ⟨by rfl, fun w' hS => by clear hS; go_simp; rfl⟩) HB10.out ?_
  simp only [Act.put, List.getElem_toArray, List.getElem_cons_succ, List.getElem_cons_zero, List.setIfInBounds_toArray, List.set_cons_zero, List.set_cons_succ]
  refine wpAnyS_ready (rs := [38]) (by kernel_rfl) (by simp) ?_
  refine AllReadyS.cons rfl (fun K hK => ?_) AllReadyS.nil
  rw [if_pos (by rfl)]
  refine wp_buildSlice_row 22 (.tmp 60) rfl 36 i0 _ Tryz.underlying22 hi hz0 (evA eA9) rfl (by rw [hz1]; rfl) (by decide) (by decide) ?_
  have HV9 := Lib.hid (views_row w10)
  have HB11 := Lib.hid (ba HB10.out (.cells (evA eA9) 36))
  refine hK.out _ _ (fun _ => HB11.out) ?_
  clear hK K
  simp only [Act.put, List.getElem_toArray, List.getElem_cons_succ, List.getElem_cons_zero, List.setIfInBounds_toArray, List.set_cons_zero, List.set_cons_succ]
  refine wpAnyS_ready (rs := [39]) (by kernel_rfl) (by simp) ?_
  refine AllReadyS.cons rfl (fun K hK => ?_) AllReadyS.nil
  go_simp
  refine (HV9.out).mono ?_
  rintro e12 w12 ⟨rfl, hb12⟩
  have HB12 := Lib.hid (bt HB11.out hb12)
  refine hK.out _ _ (fun _ => HB12.out) ?_
  clear hK K hb12
  simp only [Act.put, List.getElem_toArray, List.getElem_cons_succ, List.getElem_cons_zero, List.setIfInBounds_toArray, List.set_cons_zero, List.set_cons_succ]
  refine wpAnyS_take (i := 40) (.bool true) rfl (by kernel_rfl) (Or.inl ⟨by rfl, fun w' hS => by clear hS; go_simp; try with_reducible rfl⟩) HB12.out ?_
  simp only [Act.put, List.getElem_toArray, List.getElem_cons_succ, List.getElem_cons_zero, List.setIfInBounds_toArray, List.set_cons_zero, List.set_cons_succ]
  refine wpAnyS_take (i := 41) (.bool true) rfl (by kernel_rfl) (Or.inl ⟨by rfl, fun w' hS => by clear hS; go_simp; try with_reducible rfl⟩) HB12.out ?_
  simp only [Act.put, List.getElem_toArray, List.getElem_cons_succ, List.getElem_cons_zero, List.setIfInBounds_toArray, List.set_cons_zero, List.set_cons_succ]
  refine wpAnyS_take (i := 42) (.bool true) rfl (by kernel_rfl) (Or.inl ⟨by rfl, fun w' hS => by clear hS; go_simp; try with_reducible rfl⟩) HB12.out ?_
  simp only [Act.put, List.getElem_toArray, List.getElem_cons_succ, List.getElem_cons_zero, List.setIfInBounds_toArray, List.set_cons_zero, List.set_cons_succ]
  refine wpAnyS_take (i := 43) _ rfl (by kernel_rfl) (Or.inl ⟨by rfl, fun w' hS => by clear hS; go_simp; try with_reducible rfl⟩) HB12.out ?_
  simp only [Act.put, List.getElem_toArray, List.getElem_cons_succ, List.getElem_cons_zero, List.setIfInBounds_toArray, List.set_cons_zero, List.set_cons_succ]
  refine wpAnyS_take (i := 44) (.int .i64 0) rfl (by kernel_rfl) (Or.inl ⟨by rfl, fun w' hS => by clear hS; go_simp; try with_reducible rfl⟩) HB12.out ?_
  simp only [Act.put, List.getElem_toArray, List.getElem_cons_succ, List.getElem_cons_zero, List.setIfInBounds_toArray, List.set_cons_zero, List.set_cons_succ]
  refine wpAnyS_take (i := 45) (.bool true) rfl (by kernel_rfl) (Or.inl ⟨by rfl, fun w' hS => by clear hS; go_simp; try with_reducible rfl⟩) HB12.out ?_
  simp only [Act.put, List.getElem_toArray, List.getElem_cons_succ, List.getElem_cons_zero, List.setIfInBounds_toArray, List.set_cons_zero, List.set_cons_succ]
  refine wpAnyS_take (i := 46) (.bool true) rfl (by kernel_rfl) (Or.inl ⟨by rfl, fun w' hS => by clear hS; go_simp; try with_reducible rfl⟩) HB12.out ?_
  simp only [Act.put, List.getElem_toArray, List.getElem_cons_succ, List.getElem_cons_zero, List.setIfInBounds_toArray, List.set_cons_zero, List.set_cons_succ]
  refine wpAnyS_take (i := 47) (.bool true) rfl (by kernel_rfl) (Or.inl ⟨by rfl, fun w' hS => by clear hS; go_simp; try with_reducible rfl⟩) HB12.out ?_
  simp only [Act.put, List.getElem_toArray, List.getElem_cons_succ, List.getElem_cons_zero, List.setIfInBounds_toArray, List.set_cons_zero, List.set_cons_succ]
  refine wpAnyS_take (i := 48) _ rfl (by kernel_rfl) (Or.inl ⟨by rfl, fun w' hS => by clear hS; go_simp; try with_reducible rfl⟩) HB12.out ?_
  simp only [Act.put, List.getElem_toArray, List.getElem_cons_succ, List.getElem_cons_zero, List.setIfInBounds_toArray, List.set_cons_zero, List.set_cons_succ]
  refine wpAnyS_take (i := 49) (.int .i64 0) rfl (by kernel_rfl) (Or.inl ⟨by rfl, fun w' hS => by clear hS; go_simp; try with_reducible rfl⟩) HB12.out ?_
  simp only [Act.put, List.getElem_toArray, List.getElem_cons_succ, List.getElem_cons_zero, List.setIfInBounds_toArray, List.set_cons_zero, List.set_cons_succ]
  refine wpAnyS_take (i := 50) (.bool true) rfl (by kernel_rfl) (Or.inl ⟨by rfl, fun w' hS => by clear hS; go_simp; try with_reducible rfl⟩) HB12.out ?_
  simp only [Act.put, List.getElem_toArray, List.getElem_cons_succ, List.getElem_cons_zero, List.setIfInBounds_toArray, List.set_cons_zero, List.set_cons_succ]
  refine wpAnyS_take (i := 51) (.bool true) rfl (by kernel_rfl) (Or.inl ⟨by rfl, fun w' hS => by clear hS; go_simp; try with_reducible rfl⟩) HB12.out ?_
  simp only [Act.put, List.getElem_toArray, List.getElem_cons_succ, List.getElem_cons_zero, List.setIfInBounds_toArray, List.set_cons_zero, List.set_cons_succ]
  refine wpAnyS_ready (rs := [52]) (by kernel_rfl) (by simp) ?_
  refine AllReadyS.cons rfl (fun K hK => ?_) AllReadyS.nil
  go_simp
  refine hK.out _ _ (fun h => absurd h (by omega)) ?_
  clear hK K
  simp only [Act.put, List.getElem_toArray, List.getElem_cons_succ, List.getElem_cons_zero, List.setIfInBounds_toArray, List.set_cons_zero, List.set_cons_succ]
  refine wpAnyS_done (by kernel_rfl) ?_ _
  go_wp2_with fail
  go_ret
  exact ⟨rfl, bt HB.out HB12.out⟩
  --END
end Go.Proofs.YtogagkgkmoppmaaGreatDoor
