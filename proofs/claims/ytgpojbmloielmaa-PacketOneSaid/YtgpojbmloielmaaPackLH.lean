/-
  PacketOne: whatever is parsed is clean, and printed to the bytes that it was parsed of.
  Conditions: none.
-/
import Derived.Test.YtgpojbmloielmaaPackLA
import Derived.Test.YtgpojbmloielmaaPackRD
import Derived.Test.YtgpojbmloielmaaFrameA
namespace Go.Proofs.Ytgpojbmloielmaa
set_option linter.unusedVariables false
set_option linter.unusedSimpArgs false
open Go.RowKit
theorem wpList_load_row_want {P : Program} {ops : Array Oper} {rest : List Oper} {o : Oper} {a : Act} {w : World} {Q : Exit → Act → World → Prop} (hw : Region.wanted o (yielded ops a.tmps) = true) (ty : TypeId) (x : Operand) (ho : o.op = .load ty x)
    (g : Nat) (hx : a.eval x = .pointer (some ⟨g, 0, none⟩)) (t : TypeId) (cs : Array Value) (fr : Nat × Nat) (d : TypeDesc) (hg : w.heap[g]? = some (.cells cs t fr))
    (hu : P.underlying ty = some d) (hd : (match d with | .struct _ | .array _ _ => true | _ => false) = true) (hi : (P.info? ty).map (·.size) = some cs.size)
    (h : wpList P ops Q rest (a.put o.dst (.agg cs)) w) : wpList P ops Q (o :: rest) a w :=
  BigFrame.wpList_want hw fun _ hK => wp_load_row ty x ho g hx t cs fr d hg hu hd hi (hK _ _ h)
theorem core_head {a b : Pkt} (h : coreP a = coreP b) : a.kind = b.kind ∧ a.frm = b.frm ∧ a.dst = b.dst :=
  ⟨by have := congrArg Pkt.kind h; exact this, by have := congrArg Pkt.frm h; exact this, by have := congrArg Pkt.dst h; exact this⟩
set_option maxRecDepth 100000 in
set_option maxHeartbeats 16000000 in
theorem law_packetOne (s : ByteArray) (k f : Int) (w : World) (hs9 : s.size ≤ 9223372036854775807) : Calls Try.prog 6 #[.string s, .int .i64 k, .int .i64 f] w fun e w' => e = .returned (.bool true) ∧ Below w.heap.size w w' := by
  go_enter Try.func6, Try.ntmps6
  go_wp2_with fail
  refine (awake_any w).mono ?_
  rintro e w1 ⟨rfl, hb1⟩
  have HB1 := Lib.hid hb1
  clear hb1
  by_cases h4 : 40000 < s.size
  · have d1 : decide (40000 < s.size) = true := by simpa using h4
    have d2 : decide ((40000 : Int) < (s.size : Int)) = true := by simp; omega
    go_wp2_with fail
    go_ret
    exact ⟨rfl, HB1.out⟩
  have d1 : decide (40000 < s.size) = false := by simpa using h4
  have d2 : decide ((40000 : Int) < (s.size : Int)) = false := by simp; omega
  obtain ⟨S, hS⟩ : ∃ S, S = printS k f 1 s := ⟨_, rfl⟩
  obtain ⟨E, hE⟩ : ∃ E, E = printE k f 1 s := ⟨_, rfl⟩
  have hc1 := refPrint_any k f 1 s w1 (by omega)
  rw [← hS, ← hE] at hc1
  have HC1 := Lib.hid hc1
  have HSE := Lib.hid (And.intro hS (And.intro hE h4))
  clear hc1 hS hE h4 hs9
  go_wp2_with fail
  refine HC1.out.mono ?_
  rintro e w2 ⟨rfl, hb2⟩
  have HB2 := Lib.hid (bt HB1.out hb2)
  clear hb2 HC1 d1 d2
  by_cases hz : E = 0
  rotate_left
  · have hz2 : (E != 0) = true := by simpa using hz
    go_wp2_with fail
    go_ret
    exact ⟨rfl, HB2.out⟩
  subst hz
  have hsz : S.size ≤ 1000000 := by
    rw [HSE.out.1]
    unfold printS
    rw [if_pos HSE.out.2.1.symm, framed_size]
    have := HSE.out.2.2
    omega
  have HC2 := Lib.hid (show Calls Try.prog 10 #[.string S] w2 fun e w' => ∃ q, e = .returned (.tuple #[.agg (pktA q), .int .i64 (pktPE S)]) ∧ coreP q = coreP (pktPQ S) ∧ PktOk w' q ∧ Below w2.heap.size w2 w' from by
    refine (pkParse_any S w2 hsz).mono ?_
    rintro e w' ⟨⟨q, rfl, hc, ho⟩, hb⟩
    exact ⟨q, rfl, hc, OwnPk.okB ho hc (pktPQ_B S), hb⟩)
  obtain ⟨F, hF⟩ : ∃ F, F = pktPE S := ⟨_, rfl⟩
  have HF := Lib.hid hF
  rw [← hF] at HC2
  clear hF hsz
  go_wp2_with fail
  refine HC2.out.mono ?_
  rintro e w3 ⟨q, rfl, hcq, hoq, hb3⟩
  have HB3 := Lib.hid (bt HB2.out hb3)
  obtain ⟨B, hB⟩ : ∃ B, B = pktA q := ⟨_, rfl⟩
  have HBq := Lib.hid (And.intro hB (And.intro (show B.size = 22 by rw [hB]; rfl) (show B.all (·.oneCell') = true by rw [hB]; exact oneCell_pktA q)))
  rw [← hB]
  obtain ⟨P, hP⟩ : ∃ P, P = w3.heap.size := ⟨_, rfl⟩
  have hz := heap_alloc_new w3 (.cells (pktA zeroP) 35)
  have hbz := ba (br w3) (.cells (pktA zeroP) 35)
  rw [show pktA zeroP = #[.int .i64 0, .int .i64 0, .int .i64 0, .int .u64 0, .int .i64 0, .int .i64 0, .int .u32 0, .int .u64 0, .int .i64 0, .slice none 0 0, .string ⟨#[]⟩, .int .u64 0, .int .u32 0, .slice none 0 0, .int .u64 0, .int .i64 0, .int .u32 0, .int .u64 0, .int .u64 0, .int .i64 0, .int .u64 0, .slice none 0 0] from rfl] at hz hbz
  rw [← hP] at hz
  obtain ⟨w4, hw4⟩ : ∃ w4, w4 = (w3.alloc (.cells #[.int .i64 0, .int .i64 0, .int .i64 0, .int .u64 0, .int .i64 0, .int .i64 0, .int .u32 0, .int .u64 0, .int .i64 0, .slice none 0 0, .string ⟨#[]⟩, .int .u64 0, .int .u32 0, .slice none 0 0, .int .u64 0, .int .i64 0, .int .u32 0, .int .u64 0, .int .u64 0, .int .i64 0, .int .u64 0, .slice none 0 0] 35)).setRow P B := ⟨_, rfl⟩
  have hk4 := kept_setRow (w3.alloc (.cells #[.int .i64 0, .int .i64 0, .int .i64 0, .int .u64 0, .int .i64 0, .int .i64 0, .int .u32 0, .int .u64 0, .int .i64 0, .slice none 0 0, .string ⟨#[]⟩, .int .u64 0, .int .u32 0, .slice none 0 0, .int .u64 0, .int .i64 0, .int .u32 0, .int .u64 0, .int .u64 0, .int .i64 0, .int .u64 0, .slice none 0 0] 35)) P B
  have hb34 : Below w3.heap.size w3 w4 := by rw [hw4]; exact hk4.out hbz hbz.size (fun k hk' e => by omega)
  have HZ := Lib.hid (And.intro hz hP)
  have HY4 := Lib.hid (show w4.heap[P]? = some (.cells B 35 (0, 0)) from by rw [hw4]; exact setRow_heap _ _ _ _ _ _ hz)
  have HB4 := Lib.hid (bt HB3.out hb34)
  have HQ4 := Lib.hid (And.intro hcq (hoq.below hb34))
  clear hz hbz hk4 hP hb3 hcq hoq hB HC2 hb34
  go_upto_region 9 with (refine wpList_store_row rfl 35 (.tmp 9) (.tmp 30) rfl P B (by rw [HZ.out.2]; rfl) rfl 35 _ HZ.out.1 (by rw [HBq.out.2.1]; kernel_rfl) (by rw [HBq.out.2.1]; rfl) HBq.out.2.2 ?_)
  rw [← hw4, ← HZ.out.2]
  clear hw4
  by_cases hf : F = 0
  rotate_left
  · have hf2 : (F != 0) = true := by simpa using hf
    have hq0 : coreP q = coreP zeroP := by
      rw [HQ4.out.1]
      have h1 := HF.out
      unfold pktPE at h1
      unfold pktPQ
      split
      · rename_i x hx
        rw [hx] at h1
        exact absurd h1 hf
      · rfl
    have hbld := bld0
    obtain ⟨Z, hZ⟩ : ∃ Z, Z = pktA zeroP := ⟨_, rfl⟩
    rw [← hZ] at hbld
    have HC4 := Lib.hid (show Calls Try.prog 12 #[.agg B, .agg Z] w4 fun e w' => e = .returned (.bool true) ∧ Below w4.heap.size w4 w' from by rw [HBq.out.1, hZ]; exact same_any q zeroP w4 HQ4.out.2 (zeroP_ok w4) hq0)
    have HZZ := Lib.hid hbld
    clear hZ hq0 hbld hf
    go_wp2_with (first
      | (refine wpList_load_row rfl 35 (.tmp 9) rfl P rfl 35 B (0, 0) _ HY4.out Try.underlying35 rfl (by rw [HBq.out.2.1]; kernel_rfl) ?_)
      | (refine wpList_buildZ rfl 35 #[] rfl Z (by simp only [List.map_toArray, List.map_nil]; exact HZZ.out) ?_))
    refine HC4.out.mono ?_
    rintro e w5 ⟨rfl, hb5⟩
    have HE := Lib.hid (bt HB4.out hb5)
    clear hb5
    go_wp2_with fail
    go_ret
    exact ⟨rfl, HE.out⟩
  subst hf
  have hone := pkt_one (k := k) (f := f) (b := s) HSE.out.2.1.symm (by rw [← HSE.out.1]; exact HF.out.symm)
  rw [← HSE.out.1] at hone
  have HO := Lib.hid hone
  have HC4 := Lib.hid (show Calls Try.prog 14 #[.agg B] w4 fun e w' => e = .returned (.tuple #[.string S, .int .i64 0]) ∧ Below w4.heap.size w4 w' from by
    have := pkPrint_any q w4 HQ4.out.2
    obtain ⟨g1, g2⟩ := pkt_core HQ4.out.1
    rw [g1, g2, HO.out.1, HO.out.2.1] at this
    rw [HBq.out.1]
    exact this)
  have HH := Lib.hid (show q.kind = k ∧ q.frm = f ∧ q.dst = 1 from by
    obtain ⟨h1, h2, h3⟩ := core_head HQ4.out.1
    exact ⟨h1.trans HO.out.2.2.2.1, h2.trans HO.out.2.2.2.2.1, h3.trans HO.out.2.2.2.2.2⟩)
  clear hone
  go_wp2_with (refine wpList_load_row rfl 35 (.tmp 9) rfl P rfl 35 B (0, 0) _ HY4.out Try.underlying35 rfl (by rw [HBq.out.2.1]; kernel_rfl) ?_)
  refine HC4.out.mono ?_
  rintro e w6 ⟨rfl, hb6⟩
  have HY6 := Lib.hid ((hb6.block _ (Array.getElem?_eq_some_iff.1 HY4.out).1).trans HY4.out)
  have HB6 := Lib.hid (bt HB4.out hb6)
  have HQ6 := Lib.hid (And.intro HQ4.out.1 (HQ4.out.2.below hb6))
  clear hb6 HC4
  have hs : (S.toList == S.toList) = true := by simp
  go_upto_region 12 with (fail)
  obtain ⟨T, hT⟩ : ∃ T : World → Prop, T = fun w' => w'.rangeAt P 0 B.toList ∧ w'.cell? ⟨P, 0, none⟩ = some (.int .i64 k) ∧ w'.cell? ⟨P, 1, none⟩ = some (.int .i64 f) ∧ w'.cell? ⟨P, 2, none⟩ = some (.int .i64 1) := ⟨_, rfl⟩
  have HT := Lib.hid (show ∀ w' : World, w'.heap[P]? = some (.cells B 35 (0, 0)) → T w' from by
    intro w' hw'
    rw [hT]
    rw [HBq.out.1] at hw' ⊢
    refine ⟨range_of_block hw', ?_, ?_, ?_⟩
    · rw [cell_of_row _ _ 0 _ _ _ hw', ← HH.out.1]; rfl
    · rw [cell_of_row _ _ 1 _ _ _ hw', ← HH.out.2.1]; rfl
    · rw [cell_of_row _ _ 2 _ _ _ hw', ← HH.out.2.2]; rfl)
  have HTi := Lib.hid (show ∀ w', T w' → w'.rangeAt P 0 B.toList from fun w' h => by rw [hT] at h; exact h.1)
  have HT0 := Lib.hid (show ∀ w', T w' → w'.cell? ⟨P, 0, none⟩ = some (.int .i64 k) from fun w' h => by rw [hT] at h; exact h.2.1)
  have HT1 := Lib.hid (show ∀ w', T w' → w'.cell? ⟨P, 1, none⟩ = some (.int .i64 f) from fun w' h => by rw [hT] at h; exact h.2.2.1)
  have HT2 := Lib.hid (show ∀ w', T w' → w'.cell? ⟨P, 2, none⟩ = some (.int .i64 1) from fun w' h => by rw [hT] at h; exact h.2.2.2)
  clear hT
  refine wp_region_maskP T 30 21 [true, true, true, true, true, true, true, true, true, false, true, false, false, false, false, false, false, false, false, false, false, false, false, false, false, false, false, false, false, false, false] #[true, true, true, true, true, true, true, true, true, false, true, false, false, false, false, false, false, false, false, false, false, false, false, false, false, false, false, false, false, false, false] (by kernel_rfl) (by kernel_rfl) (by kernel_rfl) (fun c a d v w h => by cases d <;> exact h) (HT.out _ (show w6.drew.heap[P]? = _ from HY6.out)) ?_
  have HY7 := Lib.hid (show w6.drew.heap[P]? = _ from HY6.out)
  have HB7 := Lib.hid (bt HB6.out (br w6).drew)
  have HQ7 := Lib.hid (And.intro HQ6.out.1 (HQ6.out.2.below (br w6).drew))
  generalize w6.drew = w7 at *
  iterate 8
    refine wpMask_take _ (Or.inl ⟨by rfl, fun w' hS => by (try dsimp only at hS); go_simp; try with_reducible rfl⟩) ?_
    simp only [Act.put, List.setIfInBounds_toArray, List.set_cons_zero, List.set_cons_succ]
  refine wpMask_take _ (yieldsIf_load_mid (by rfl) 35 (.tmp 9) rfl P 0 rfl B.toList _ (fun w' hS => HTi.out _ hS) Try.underlying35 rfl (by rw [Array.length_toList, HBq.out.2.1]; kernel_rfl)) ?_
  simp only [Act.put, List.setIfInBounds_toArray, List.set_cons_zero, List.set_cons_succ]
  refine wpMask_skip ?_
  refine wpMask_take _ (yieldsIf_load_mid (by rfl) 35 (.tmp 9) rfl P 0 rfl B.toList _ (fun w' hS => HTi.out _ hS) Try.underlying35 rfl (by rw [Array.length_toList, HBq.out.2.1]; kernel_rfl)) ?_
  simp only [Act.put, List.setIfInBounds_toArray, List.set_cons_zero, List.set_cons_succ]
  iterate 20 refine wpMask_skip ?_
  refine wpMask_nil ?_
  have HC7 := Lib.hid (show Calls Try.prog 16 #[.agg B] w7 fun e w' => OwnEnd (selP q) w7 e w' from by rw [HBq.out.1]; exact clean_any q w7 HQ7.out.2)
  refine wpAnyS_ready (rs := [9]) (by kernel_rfl) (by simp) ?_
  refine AllReadyS.cons rfl (fun K hK => ?_) AllReadyS.nil
  go_simp
  refine HC7.out.mono ?_
  rintro e w8 ⟨⟨q2, rfl, hcq, hoq⟩, hb8⟩
  have HY8 := Lib.hid ((hb8.block _ (Array.getElem?_eq_some_iff.1 HY7.out).1).trans HY7.out)
  have HB8 := Lib.hid (bt HB7.out hb8)
  have HQ8 := Lib.hid (And.intro HQ7.out.1 (HQ7.out.2.below hb8))
  have hcc : coreP q2 = coreP q := by rw [hcq, selP_core HQ7.out.1, HO.out.2.2.1, ← HQ7.out.1]
  have HC8 := Lib.hid (show Calls Try.prog 12 #[.agg (pktA q2), .agg B] w8 fun e w' => e = .returned (.bool true) ∧ Below w8.heap.size w8 w' from by rw [HBq.out.1]; exact same_any q2 q w8 (OwnPk.okB hoq (hcc.trans HQ7.out.1) (pktPQ_B S)) HQ8.out.2 hcc)
  refine hK.out _ _ (fun _ => HT.out _ HY8.out) ?_
  clear hK K hcq hoq hb8 HC7 hcc
  simp only [Act.put, List.setIfInBounds_toArray, List.set_cons_zero, List.set_cons_succ]
  refine wpAnyS_ready (rs := [11]) (by kernel_rfl) (by simp) ?_
  refine AllReadyS.cons rfl (fun K hK => ?_) AllReadyS.nil
  go_simp
  refine HC8.out.mono ?_
  rintro e w9 ⟨rfl, hb9⟩
  have HY9 := Lib.hid ((hb9.block _ (Array.getElem?_eq_some_iff.1 HY8.out).1).trans HY8.out)
  have HB9 := Lib.hid (bt HB8.out hb9)
  refine hK.out _ _ (fun _ => HT.out _ HY9.out) ?_
  clear hK K hb9 HC8
  simp only [Act.put, List.setIfInBounds_toArray, List.set_cons_zero, List.set_cons_succ]
  have hT9 := HT.out _ HY9.out
  refine wpAnyS_takeP (i := 12) _ (fun c a d v w h => by cases d <;> exact h) rfl (by kernel_rfl) (Or.inl ⟨by rfl, fun w' hS => by (have h0 := HT0.out _ hS); (have h1 := HT1.out _ hS); (have h2 := HT2.out _ hS); go_simp; try with_reducible rfl⟩) hT9 ?_
  simp only [Act.put, List.setIfInBounds_toArray, List.set_cons_zero, List.set_cons_succ, List.getElem_toArray, List.getElem_cons_succ, List.getElem_cons_zero]
  refine wpAnyS_takeP (i := 13) _ (fun c a d v w h => by cases d <;> exact h) rfl (by kernel_rfl) (Or.inl ⟨by rfl, fun w' hS => by (have h0 := HT0.out _ hS); (have h1 := HT1.out _ hS); (have h2 := HT2.out _ hS); go_simp; try with_reducible rfl⟩) hT9 ?_
  simp only [Act.put, List.setIfInBounds_toArray, List.set_cons_zero, List.set_cons_succ, List.getElem_toArray, List.getElem_cons_succ, List.getElem_cons_zero]
  refine wpAnyS_takeP (i := 14) _ (fun c a d v w h => by cases d <;> exact h) rfl (by kernel_rfl) (Or.inl ⟨by rfl, fun w' hS => by (have h0 := HT0.out _ hS); (have h1 := HT1.out _ hS); (have h2 := HT2.out _ hS); go_simp; try with_reducible rfl⟩) hT9 ?_
  simp only [Act.put, List.setIfInBounds_toArray, List.set_cons_zero, List.set_cons_succ, List.getElem_toArray, List.getElem_cons_succ, List.getElem_cons_zero]
  refine wpAnyS_takeP (i := 15) _ (fun c a d v w h => by cases d <;> exact h) rfl (by kernel_rfl) (Or.inl ⟨by rfl, fun w' hS => by (have h0 := HT0.out _ hS); (have h1 := HT1.out _ hS); (have h2 := HT2.out _ hS); go_simp; try with_reducible rfl⟩) hT9 ?_
  simp only [Act.put, List.setIfInBounds_toArray, List.set_cons_zero, List.set_cons_succ, List.getElem_toArray, List.getElem_cons_succ, List.getElem_cons_zero]
  refine wpAnyS_takeP (i := 16) _ (fun c a d v w h => by cases d <;> exact h) rfl (by kernel_rfl) (Or.inl ⟨by rfl, fun w' hS => by (have h0 := HT0.out _ hS); (have h1 := HT1.out _ hS); (have h2 := HT2.out _ hS); go_simp; try with_reducible rfl⟩) hT9 ?_
  simp only [Act.put, List.setIfInBounds_toArray, List.set_cons_zero, List.set_cons_succ, List.getElem_toArray, List.getElem_cons_succ, List.getElem_cons_zero]
  refine wpAnyS_takeP (i := 17) (.bool true) (fun c a d v w h => by cases d <;> exact h) rfl (by kernel_rfl) (Or.inl ⟨by rfl, fun w' hS => by (have h0 := HT0.out _ hS); (have h1 := HT1.out _ hS); (have h2 := HT2.out _ hS); go_simp; try with_reducible rfl⟩) hT9 ?_
  simp only [Act.put, List.setIfInBounds_toArray, List.set_cons_zero, List.set_cons_succ, List.getElem_toArray, List.getElem_cons_succ, List.getElem_cons_zero]
  refine wpAnyS_takeP (i := 18) _ (fun c a d v w h => by cases d <;> exact h) rfl (by kernel_rfl) (Or.inl ⟨by rfl, fun w' hS => by (have h0 := HT0.out _ hS); (have h1 := HT1.out _ hS); (have h2 := HT2.out _ hS); go_simp; try with_reducible rfl⟩) hT9 ?_
  simp only [Act.put, List.setIfInBounds_toArray, List.set_cons_zero, List.set_cons_succ, List.getElem_toArray, List.getElem_cons_succ, List.getElem_cons_zero]
  refine wpAnyS_takeP (i := 19) _ (fun c a d v w h => by cases d <;> exact h) rfl (by kernel_rfl) (Or.inl ⟨by rfl, fun w' hS => by (have h0 := HT0.out _ hS); (have h1 := HT1.out _ hS); (have h2 := HT2.out _ hS); go_simp; try with_reducible rfl⟩) hT9 ?_
  simp only [Act.put, List.setIfInBounds_toArray, List.set_cons_zero, List.set_cons_succ, List.getElem_toArray, List.getElem_cons_succ, List.getElem_cons_zero]
  refine wpAnyS_takeP (i := 20) _ (fun c a d v w h => by cases d <;> exact h) rfl (by kernel_rfl) (Or.inl ⟨by rfl, fun w' hS => by (have h0 := HT0.out _ hS); (have h1 := HT1.out _ hS); (have h2 := HT2.out _ hS); go_simp; try with_reducible rfl⟩) hT9 ?_
  simp only [Act.put, List.setIfInBounds_toArray, List.set_cons_zero, List.set_cons_succ, List.getElem_toArray, List.getElem_cons_succ, List.getElem_cons_zero]
  refine wpAnyS_takeP (i := 21) _ (fun c a d v w h => by cases d <;> exact h) rfl (by kernel_rfl) (Or.inl ⟨by rfl, fun w' hS => by (have h0 := HT0.out _ hS); (have h1 := HT1.out _ hS); (have h2 := HT2.out _ hS); go_simp; try with_reducible rfl⟩) hT9 ?_
  simp only [Act.put, List.setIfInBounds_toArray, List.set_cons_zero, List.set_cons_succ, List.getElem_toArray, List.getElem_cons_succ, List.getElem_cons_zero]
  refine wpAnyS_takeP (i := 22) _ (fun c a d v w h => by cases d <;> exact h) rfl (by kernel_rfl) (Or.inl ⟨by rfl, fun w' hS => by (have h0 := HT0.out _ hS); (have h1 := HT1.out _ hS); (have h2 := HT2.out _ hS); go_simp; try with_reducible rfl⟩) hT9 ?_
  simp only [Act.put, List.setIfInBounds_toArray, List.set_cons_zero, List.set_cons_succ, List.getElem_toArray, List.getElem_cons_succ, List.getElem_cons_zero]
  refine wpAnyS_takeP (i := 23) (.bool true) (fun c a d v w h => by cases d <;> exact h) rfl (by kernel_rfl) (Or.inl ⟨by rfl, fun w' hS => by (have h0 := HT0.out _ hS); (have h1 := HT1.out _ hS); (have h2 := HT2.out _ hS); go_simp; try with_reducible rfl⟩) hT9 ?_
  simp only [Act.put, List.setIfInBounds_toArray, List.set_cons_zero, List.set_cons_succ, List.getElem_toArray, List.getElem_cons_succ, List.getElem_cons_zero]
  refine wpAnyS_takeP (i := 24) _ (fun c a d v w h => by cases d <;> exact h) rfl (by kernel_rfl) (Or.inl ⟨by rfl, fun w' hS => by (have h0 := HT0.out _ hS); (have h1 := HT1.out _ hS); (have h2 := HT2.out _ hS); go_simp; try with_reducible rfl⟩) hT9 ?_
  simp only [Act.put, List.setIfInBounds_toArray, List.set_cons_zero, List.set_cons_succ, List.getElem_toArray, List.getElem_cons_succ, List.getElem_cons_zero]
  refine wpAnyS_takeP (i := 25) _ (fun c a d v w h => by cases d <;> exact h) rfl (by kernel_rfl) (Or.inl ⟨by rfl, fun w' hS => by (have h0 := HT0.out _ hS); (have h1 := HT1.out _ hS); (have h2 := HT2.out _ hS); go_simp; try with_reducible rfl⟩) hT9 ?_
  simp only [Act.put, List.setIfInBounds_toArray, List.set_cons_zero, List.set_cons_succ, List.getElem_toArray, List.getElem_cons_succ, List.getElem_cons_zero]
  refine wpAnyS_takeP (i := 26) _ (fun c a d v w h => by cases d <;> exact h) rfl (by kernel_rfl) (Or.inl ⟨by rfl, fun w' hS => by (have h0 := HT0.out _ hS); (have h1 := HT1.out _ hS); (have h2 := HT2.out _ hS); go_simp; try with_reducible rfl⟩) hT9 ?_
  simp only [Act.put, List.setIfInBounds_toArray, List.set_cons_zero, List.set_cons_succ, List.getElem_toArray, List.getElem_cons_succ, List.getElem_cons_zero]
  refine wpAnyS_takeP (i := 27) _ (fun c a d v w h => by cases d <;> exact h) rfl (by kernel_rfl) (Or.inl ⟨by rfl, fun w' hS => by (have h0 := HT0.out _ hS); (have h1 := HT1.out _ hS); (have h2 := HT2.out _ hS); go_simp; try with_reducible rfl⟩) hT9 ?_
  simp only [Act.put, List.setIfInBounds_toArray, List.set_cons_zero, List.set_cons_succ, List.getElem_toArray, List.getElem_cons_succ, List.getElem_cons_zero]
  refine wpAnyS_takeP (i := 28) (.bool true) (fun c a d v w h => by cases d <;> exact h) rfl (by kernel_rfl) (Or.inl ⟨by rfl, fun w' hS => by (have h0 := HT0.out _ hS); (have h1 := HT1.out _ hS); (have h2 := HT2.out _ hS); go_simp; try with_reducible rfl⟩) hT9 ?_
  simp only [Act.put, List.setIfInBounds_toArray, List.set_cons_zero, List.set_cons_succ, List.getElem_toArray, List.getElem_cons_succ, List.getElem_cons_zero]
  refine wpAnyS_takeP (i := 29) _ (fun c a d v w h => by cases d <;> exact h) rfl (by kernel_rfl) (Or.inl ⟨by rfl, fun w' hS => by (have h0 := HT0.out _ hS); (have h1 := HT1.out _ hS); (have h2 := HT2.out _ hS); go_simp; try with_reducible rfl⟩) hT9 ?_
  simp only [Act.put, List.setIfInBounds_toArray, List.set_cons_zero, List.set_cons_succ, List.getElem_toArray, List.getElem_cons_succ, List.getElem_cons_zero]
  refine wpAnyS_ready (rs := [30]) (by kernel_rfl) (by simp) ?_
  refine AllReadyS.cons rfl (fun K hK => ?_) AllReadyS.nil
  go_simp
  refine hK.out _ _ (fun h => absurd h (by decide)) ?_
  clear hK K
  simp only [Act.put, List.setIfInBounds_toArray, List.set_cons_zero, List.set_cons_succ]
  refine wpAnyS_doneP (by kernel_rfl) ?_ _
  go_wp2_with fail
  go_ret
  exact ⟨rfl, HB9.out⟩
theorem packetOne_row (s : ByteArray) (k f : Int) (w : World) (hs9 : s.size ≤ 9223372036854775807) (hk : -9223372036854775808 ≤ k ∧ k ≤ 9223372036854775807) (hf : -9223372036854775808 ≤ f ∧ f ≤ 9223372036854775807) :
    Calls Try.prog 6 #[.string s, .int .i64 k, .int .i64 f] w fun e w' => e = .returned (.bool true) ∧ Below w.heap.size w w' := law_packetOne s k f w hs9
end Go.Proofs.Ytgpojbmloielmaa
