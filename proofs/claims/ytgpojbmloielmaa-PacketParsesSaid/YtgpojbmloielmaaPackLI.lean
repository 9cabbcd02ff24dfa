/-
  PacketParses: any bytes, and any frame's bytes, are just the document's packet, or wrong as it says.
  Conditions: none.
-/
import Derived.Test.YtgpojbmloielmaaPackLA
import Derived.Test.YtgpojbmloielmaaPackRD
import Derived.Test.YtgpojbmloielmaaTake2
import Derived.Test.YtgpojbmloielmaaFrameA
namespace Go.Proofs.Ytgpojbmloielmaa
set_option linter.unusedVariables false
set_option linter.unusedSimpArgs false
open Go.RowKit
def ParseOk (X : ByteArray) (F : Int) (w : World) (e : Ending) (w' : World) : Prop := ∃ q, e = .returned (.tuple #[.agg (pktA q), .int .i64 F]) ∧ coreP q = coreP (pktPQ X) ∧ PktOk w' q ∧ Below w.heap.size w w'
theorem ParseEnd.okB {X : ByteArray} {w : World} {e : Ending} {w' : World} (h : ParseEnd X w e w') : ParseOk X (pktPE X) w e w' := by
  obtain ⟨⟨q, h1, h2, h3⟩, h4⟩ := h
  exact ⟨q, h1, h2, OwnPk.okB h3 h2 (pktPQ_B X), h4⟩
set_option maxRecDepth 100000 in
set_option maxHeartbeats 16000000 in
theorem law_packetParses (s : ByteArray) (k f : Int) (w : World) (hs9 : s.size ≤ 9223372036854775807) : Calls Try.prog 3 #[.string s, .int .i64 k, .int .i64 f] w fun e w' => e = .returned (.bool true) ∧ Below w.heap.size w w' := by
  go_enter Try.func3, Try.ntmps3
  go_wp2_with fail
  refine (awake_any w).mono ?_
  rintro e w1 ⟨rfl, hb1⟩
  have HB1 := Lib.hid hb1
  clear hb1
  by_cases h4 : 40000 < s.size
  · have d1 : decide (40000 < s.size) = true := by simpa using h4
    have d2 : decide ((40000 : Int) < (s.size : Int)) = true := by simp; omega
    go_wp2_with fail
    go_ret
    exact ⟨rfl, HB1.out⟩
  have d1 : decide (40000 < s.size) = false := by simpa using h4
  have d2 : decide ((40000 : Int) < (s.size : Int)) = false := by simp; omega
  obtain ⟨S, hS⟩ : ∃ S, S = printS k f 0 s := ⟨_, rfl⟩
  obtain ⟨E, hE⟩ : ∃ E, E = printE k f 0 s := ⟨_, rfl⟩
  have hc1 := refPrint_any k f 0 s w1 (by omega)
  rw [← hS, ← hE] at hc1
  have HC1 := Lib.hid hc1
  have hsz : S.size ≤ 1000000 := by
    rw [hS]
    unfold printS
    split
    · rw [framed_size]; omega
    · show 0 ≤ _; omega
  have HSZ := Lib.hid (And.intro hsz (show s.size ≤ 1000000 by omega))
  clear hc1 hS hE h4 hs9 hsz
  go_wp2_with fail
  refine HC1.out.mono ?_
  rintro e w2 ⟨rfl, hb2⟩
  have HB2 := Lib.hid (bt HB1.out hb2)
  clear hb2 HC1 d1 d2
  obtain ⟨D, hD⟩ : ∃ D, D = w2.heap.size := ⟨_, rfl⟩
  obtain ⟨w3, hw3⟩ : ∃ w3, w3 = w2.alloc (.cells #[.string s, .string S] 25) := ⟨_, rfl⟩
  have hb3 := ba (br w2) (.cells #[.string s, .string S] 25)
  have hx3 := heap_alloc_new w2 (.cells #[.string s, .string S] 25)
  rw [← hw3] at hb3 hx3
  rw [← hD] at hx3
  have HX3 := Lib.hid (And.intro hx3 (bt HB2.out hb3))
  clear hb3 hx3
  go_upto_region 7 with (fail)
  rw [← hw3, ← hD]
  clear hw3 hD
  go_wp2_with fail
  go_loopw [10] (fun i wr => ∃ j : Nat, j ≤ 2 ∧ i = .int .i64 (j : Int) ∧ Hid (wr.heap[D]? = some (.cells #[.string s, .string S] 25 (0, 0)) ∧ Below w.heap.size w wr)) (fun i _ => 2 - (intOf i).toNat)
  case atStart => exact ⟨0, by omega, rfl, HX3.out⟩
  case round =>
    obtain ⟨j, hj, rfl, HW⟩ := hrel
    have c0 : wr.cell? ⟨D, 0, none⟩ = some (.string s) := cell_of_row _ _ 0 _ _ _ HW.out.1
    have c1 : wr.cell? ⟨D, 1, none⟩ = some (.string S) := cell_of_row _ _ 1 _ _ _ HW.out.1
    rcases (show j = 0 ∨ j = 1 ∨ j = 2 by omega) with e | e | e
    · subst e
      have HC2 := Lib.hid (show Calls Try.prog 10 #[.string s] wr fun e w' => ParseOk s (pktPE s) wr e w' from (pkParse_any s wr HSZ.out.2).mono fun e w' h => h.okB)
      obtain ⟨F, hF⟩ : ∃ F, F = pktPE s := ⟨_, rfl⟩
      rw [← hF] at HC2
      have HF := Lib.hid hF
      clear hF
      go_wp2_with fail
      refine HC2.out.mono ?_
      rintro e w4 ⟨q, rfl, hcq, hoq, hb4⟩
      obtain ⟨B, hB⟩ : ∃ B, B = pktA q := ⟨_, rfl⟩
      have HB := Lib.hid (And.intro hB (And.intro (show B.size = 22 by rw [hB]; rfl) (show B.all (·.oneCell') = true by rw [hB]; exact oneCell_pktA q)))
      rw [← hB]
      obtain ⟨P, hP⟩ : ∃ P, P = w4.heap.size := ⟨_, rfl⟩
      have hz := heap_alloc_new w4 (.cells (pktA zeroP) 35)
      have hbz := ba (br w4) (.cells (pktA zeroP) 35)
      rw [show pktA zeroP = #[.int .i64 0, .int .i64 0, .int .i64 0, .int .u64 0, .int .i64 0, .int .i64 0, .int .u32 0, .int .u64 0, .int .i64 0, .slice none 0 0, .string ⟨#[]⟩, .int .u64 0, .int .u32 0, .slice none 0 0, .int .u64 0, .int .i64 0, .int .u32 0, .int .u64 0, .int .u64 0, .int .i64 0, .int .u64 0, .slice none 0 0] from rfl] at hz hbz
      rw [← hP] at hz
      obtain ⟨w5, hww5⟩ : ∃ w5, w5 = (w4.alloc (.cells #[.int .i64 0, .int .i64 0, .int .i64 0, .int .u64 0, .int .i64 0, .int .i64 0, .int .u32 0, .int .u64 0, .int .i64 0, .slice none 0 0, .string ⟨#[]⟩, .int .u64 0, .int .u32 0, .slice none 0 0, .int .u64 0, .int .i64 0, .int .u32 0, .int .u64 0, .int .u64 0, .int .i64 0, .int .u64 0, .slice none 0 0] 35)).setRow P B := ⟨_, rfl⟩
      have hk4 := kept_setRow (w4.alloc (.cells #[.int .i64 0, .int .i64 0, .int .i64 0, .int .u64 0, .int .i64 0, .int .i64 0, .int .u32 0, .int .u64 0, .int .i64 0, .slice none 0 0, .string ⟨#[]⟩, .int .u64 0, .int .u32 0, .slice none 0 0, .int .u64 0, .int .i64 0, .int .u32 0, .int .u64 0, .int .u64 0, .int .i64 0, .int .u64 0, .slice none 0 0] 35)) P B
      have hbn : Below w4.heap.size w4 w5 := by rw [hww5]; exact hk4.out hbz hbz.size (fun k hk' e => by omega)
      have HZP := Lib.hid (And.intro hz hP)
      have HYP := Lib.hid (show w5.heap[P]? = some (.cells B 35 (0, 0)) from by rw [hww5]; exact setRow_heap _ _ _ _ _ _ hz)
      have HD5 := Lib.hid (And.intro ((hbn.block _ (Array.getElem?_eq_some_iff.1 ((hb4.block _ (Array.getElem?_eq_some_iff.1 HW.out.1).1).trans HW.out.1)).1).trans ((hb4.block _ (Array.getElem?_eq_some_iff.1 HW.out.1).1).trans HW.out.1)) (bt (bt HW.out.2 hb4) hbn))
      have HQ5 := Lib.hid (And.intro hcq (hoq.below hbn))
      clear hz hbz hk4 hP hb4 hcq hoq hB HC2 hbn c0 c1
      go_upto_region 12 with (refine wpList_store_row rfl 35 (.tmp 11) (.tmp 45) rfl P B (by rw [HZP.out.2]; rfl) rfl 35 _ HZP.out.1 (by rw [HB.out.2.1]; kernel_rfl) (by rw [HB.out.2.1]; rfl) HB.out.2.2 ?_)
      rw [← hww5, ← HZP.out.2]
      clear hww5
      have c0 : w5.cell? ⟨D, 0, none⟩ = some (.string s) := cell_of_row _ _ 0 _ _ _ HD5.out.1
      have HC5 := Lib.hid (show Calls Try.prog 11 #[.string s] w5 fun e w' => ParseOk s F w5 e w' from by rw [HF.out]; exact (refPkParse_any s w5 HSZ.out.2).mono fun e w' h => h.okB)
      go_wp2_with fail
      refine HC5.out.mono ?_
      rintro e w6 ⟨p, rfl, hcp, hop, hb6⟩
      obtain ⟨C, hC⟩ : ∃ C, C = pktA p := ⟨_, rfl⟩
      have HC := Lib.hid (And.intro hC (And.intro (show C.size = 22 by rw [hC]; rfl) (show C.all (·.oneCell') = true by rw [hC]; exact oneCell_pktA p)))
      rw [← hC]
      obtain ⟨G, hG⟩ : ∃ G, G = w6.heap.size := ⟨_, rfl⟩
      have hz := heap_alloc_new w6 (.cells (pktA zeroP) 35)
      have hbz := ba (br w6) (.cells (pktA zeroP) 35)
      rw [show pktA zeroP = #[.int .i64 0, .int .i64 0, .int .i64 0, .int .u64 0, .int .i64 0, .int .i64 0, .int .u32 0, .int .u64 0, .int .i64 0, .slice none 0 0, .string ⟨#[]⟩, .int .u64 0, .int .u32 0, .slice none 0 0, .int .u64 0, .int .i64 0, .int .u32 0, .int .u64 0, .int .u64 0, .int .i64 0, .int .u64 0, .slice none 0 0] from rfl] at hz hbz
      rw [← hG] at hz
      obtain ⟨w7, hww7⟩ : ∃ w7, w7 = (w6.alloc (.cells #[.int .i64 0, .int .i64 0, .int .i64 0, .int .u64 0, .int .i64 0, .int .i64 0, .int .u32 0, .int .u64 0, .int .i64 0, .slice none 0 0, .string ⟨#[]⟩, .int .u64 0, .int .u32 0, .slice none 0 0, .int .u64 0, .int .i64 0, .int .u32 0, .int .u64 0, .int .u64 0, .int .i64 0, .int .u64 0, .slice none 0 0] 35)).setRow G C := ⟨_, rfl⟩
      have hk4 := kept_setRow (w6.alloc (.cells #[.int .i64 0, .int .i64 0, .int .i64 0, .int .u64 0, .int .i64 0, .int .i64 0, .int .u32 0, .int .u64 0, .int .i64 0, .slice none 0 0, .string ⟨#[]⟩, .int .u64 0, .int .u32 0, .slice none 0 0, .int .u64 0, .int .i64 0, .int .u32 0, .int .u64 0, .int .u64 0, .int .i64 0, .int .u64 0, .slice none 0 0] 35)) G C
      have hbn : Below w6.heap.size w6 w7 := by rw [hww7]; exact hk4.out hbz hbz.size (fun k hk' e => by omega)
      have HZG := Lib.hid (And.intro hz hG)
      have HYG := Lib.hid (show w7.heap[G]? = some (.cells C 35 (0, 0)) from by rw [hww7]; exact setRow_heap _ _ _ _ _ _ hz)
      have HD7 := Lib.hid (And.intro ((hbn.block _ (Array.getElem?_eq_some_iff.1 ((hb6.block _ (Array.getElem?_eq_some_iff.1 HD5.out.1).1).trans HD5.out.1)).1).trans ((hb6.block _ (Array.getElem?_eq_some_iff.1 HD5.out.1).1).trans HD5.out.1)) (bt (bt HD5.out.2 hb6) hbn))
      have HY7 := Lib.hid (show w7.heap[P]? = some (.cells B 35 (0, 0)) from (hbn.block _ (Array.getElem?_eq_some_iff.1 ((hb6.block _ (Array.getElem?_eq_some_iff.1 HYP.out).1).trans HYP.out)).1).trans ((hb6.block _ (Array.getElem?_eq_some_iff.1 HYP.out).1).trans HYP.out))
      have HSM := Lib.hid (show Calls Try.prog 12 #[.agg B, .agg C] w7 fun e w' => e = .returned (.bool true) ∧ Below w7.heap.size w7 w' from by rw [HB.out.1, hC]; exact same_any q p w7 ((HQ5.out.2.below hb6).below hbn) (hop.below hbn) (HQ5.out.1.trans hcp.symm))
      clear hz hbz hk4 hG hb6 hcp hop hC HC5 hbn c0
      go_upto_region 13 with (refine wpList_store_row rfl 35 (.tmp 13) (.tmp 52) rfl G C (by rw [HZG.out.2]; rfl) rfl 35 _ HZG.out.1 (by rw [HC.out.2.1]; kernel_rfl) (by rw [HC.out.2.1]; rfl) HC.out.2.2 ?_)
      rw [← hww7, ← HZG.out.2]
      clear hww7
      go_wp2_with (first
        | (refine wpList_load_row rfl 35 (.tmp 11) rfl P rfl 35 B (0, 0) _ HY7.out Try.underlying35 rfl (by rw [HB.out.2.1]; kernel_rfl) ?_)
        | (refine wpList_load_row rfl 35 (.tmp 13) rfl G rfl 35 C (0, 0) _ HYG.out Try.underlying35 rfl (by rw [HC.out.2.1]; kernel_rfl) ?_))
      refine HSM.out.mono ?_
      rintro e w8 ⟨rfl, hb8⟩
      have HE := Lib.hid (show Hid (w8.heap[D]? = some (.cells #[.string s, .string S] 25 (0, 0)) ∧ Below w.heap.size w w8) from ⟨(hb8.block _ (Array.getElem?_eq_some_iff.1 HD7.out.1).1).trans HD7.out.1, bt HD7.out.2 hb8⟩)
      have hFF : (F != F) = false := by simp
      clear hb8
      go_wp2_with fail
      exact ⟨⟨1, by omega, by first | rfl | go_num, HE.out⟩, by first | decide | (simp [intOf])⟩
    · subst e
      by_cases hz : E = 0
      rotate_left
      · have hz2 : (E != 0) = true := by simpa using hz
        go_wp2_with fail
        go_ret
        exact ⟨rfl, HW.out.2⟩
      subst hz
      have HC2 := Lib.hid (show Calls Try.prog 10 #[.string S] wr fun e w' => ParseOk S (pktPE S) wr e w' from (pkParse_any S wr HSZ.out.1).mono fun e w' h => h.okB)
      obtain ⟨F, hF⟩ : ∃ F, F = pktPE S := ⟨_, rfl⟩
      rw [← hF] at HC2
      have HF := Lib.hid hF
      clear hF
      go_wp2_with fail
      refine HC2.out.mono ?_
      rintro e w4 ⟨q, rfl, hcq, hoq, hb4⟩
      obtain ⟨B, hB⟩ : ∃ B, B = pktA q := ⟨_, rfl⟩
      have HB := Lib.hid (And.intro hB (And.intro (show B.size = 22 by rw [hB]; rfl) (show B.all (·.oneCell') = true by rw [hB]; exact oneCell_pktA q)))
      rw [← hB]
      obtain ⟨P, hP⟩ : ∃ P, P = w4.heap.size := ⟨_, rfl⟩
      have hz := heap_alloc_new w4 (.cells (pktA zeroP) 35)
      have hbz := ba (br w4) (.cells (pktA zeroP) 35)
      rw [show pktA zeroP = #[.int .i64 0, .int .i64 0, .int .i64 0, .int .u64 0, .int .i64 0, .int .i64 0, .int .u32 0, .int .u64 0, .int .i64 0, .slice none 0 0, .string ⟨#[]⟩, .int .u64 0, .int .u32 0, .slice none 0 0, .int .u64 0, .int .i64 0, .int .u32 0, .int .u64 0, .int .u64 0, .int .i64 0, .int .u64 0, .slice none 0 0] from rfl] at hz hbz
      rw [← hP] at hz
      obtain ⟨w5, hww5⟩ : ∃ w5, w5 = (w4.alloc (.cells #[.int .i64 0, .int .i64 0, .int .i64 0, .int .u64 0, .int .i64 0, .int .i64 0, .int .u32 0, .int .u64 0, .int .i64 0, .slice none 0 0, .string ⟨#[]⟩, .int .u64 0, .int .u32 0, .slice none 0 0, .int .u64 0, .int .i64 0, .int .u32 0, .int .u64 0, .int .u64 0, .int .i64 0, .int .u64 0, .slice none 0 0] 35)).setRow P B := ⟨_, rfl⟩
      have hk4 := kept_setRow (w4.alloc (.cells #[.int .i64 0, .int .i64 0, .int .i64 0, .int .u64 0, .int .i64 0, .int .i64 0, .int .u32 0, .int .u64 0, .int .i64 0, .slice none 0 0, .string ⟨#[]⟩, .int .u64 0, .int .u32 0, .slice none 0 0, .int .u64 0, .int .i64 0, .int .u32 0, .int .u64 0, .int .u64 0, .int .i64 0, .int .u64 0, .slice none 0 0] 35)) P B
      have hbn : Below w4.heap.size w4 w5 := by rw [hww5]; exact hk4.out hbz hbz.size (fun k hk' e => by omega)
      have HZP := Lib.hid (And.intro hz hP)
      have HYP := Lib.hid (show w5.heap[P]? = some (.cells B 35 (0, 0)) from by rw [hww5]; exact setRow_heap _ _ _ _ _ _ hz)
      have HD5 := Lib.hid (And.intro ((hbn.block _ (Array.getElem?_eq_some_iff.1 ((hb4.block _ (Array.getElem?_eq_some_iff.1 HW.out.1).1).trans HW.out.1)).1).trans ((hb4.block _ (Array.getElem?_eq_some_iff.1 HW.out.1).1).trans HW.out.1)) (bt (bt HW.out.2 hb4) hbn))
      have HQ5 := Lib.hid (And.intro hcq (hoq.below hbn))
      clear hz hbz hk4 hP hb4 hcq hoq hB HC2 hbn c0 c1
      go_upto_region 12 with (refine wpList_store_row rfl 35 (.tmp 11) (.tmp 45) rfl P B (by rw [HZP.out.2]; rfl) rfl 35 _ HZP.out.1 (by rw [HB.out.2.1]; kernel_rfl) (by rw [HB.out.2.1]; rfl) HB.out.2.2 ?_)
      rw [← hww5, ← HZP.out.2]
      clear hww5
      have c1 : w5.cell? ⟨D, 1, none⟩ = some (.string S) := cell_of_row _ _ 1 _ _ _ HD5.out.1
      have HC5 := Lib.hid (show Calls Try.prog 11 #[.string S] w5 fun e w' => ParseOk S F w5 e w' from by rw [HF.out]; exact (refPkParse_any S w5 HSZ.out.1).mono fun e w' h => h.okB)
      go_wp2_with fail
      refine HC5.out.mono ?_
      rintro e w6 ⟨p, rfl, hcp, hop, hb6⟩
      obtain ⟨C, hC⟩ : ∃ C, C = pktA p := ⟨_, rfl⟩
      have HC := Lib.hid (And.intro hC (And.intro (show C.size = 22 by rw [hC]; rfl) (show C.all (·.oneCell') = true by rw [hC]; exact oneCell_pktA p)))
      rw [← hC]
      obtain ⟨G, hG⟩ : ∃ G, G = w6.heap.size := ⟨_, rfl⟩
      have hz := heap_alloc_new w6 (.cells (pktA zeroP) 35)
      have hbz := ba (br w6) (.cells (pktA zeroP) 35)
      rw [show pktA zeroP = #[.int .i64 0, .int .i64 0, .int .i64 0, .int .u64 0, .int .i64 0, .int .i64 0, .int .u32 0, .int .u64 0, .int .i64 0, .slice none 0 0, .string ⟨#[]⟩, .int .u64 0, .int .u32 0, .slice none 0 0, .int .u64 0, .int .i64 0, .int .u32 0, .int .u64 0, .int .u64 0, .int .i64 0, .int .u64 0, .slice none 0 0] from rfl] at hz hbz
      rw [← hG] at hz
      obtain ⟨w7, hww7⟩ : ∃ w7, w7 = (w6.alloc (.cells #[.int .i64 0, .int .i64 0, .int .i64 0, .int .u64 0, .int .i64 0, .int .i64 0, .int .u32 0, .int .u64 0, .int .i64 0, .slice none 0 0, .string ⟨#[]⟩, .int .u64 0, .int .u32 0, .slice none 0 0, .int .u64 0, .int .i64 0, .int .u32 0, .int .u64 0, .int .u64 0, .int .i64 0, .int .u64 0, .slice none 0 0] 35)).setRow G C := ⟨_, rfl⟩
      have hk4 := kept_setRow (w6.alloc (.cells #[.int .i64 0, .int .i64 0, .int .i64 0, .int .u64 0, .int .i64 0, .int .i64 0, .int .u32 0, .int .u64 0, .int .i64 0, .slice none 0 0, .string ⟨#[]⟩, .int .u64 0, .int .u32 0, .slice none 0 0, .int .u64 0, .int .i64 0, .int .u32 0, .int .u64 0, .int .u64 0, .int .i64 0, .int .u64 0, .slice none 0 0] 35)) G C
      have hbn : Below w6.heap.size w6 w7 := by rw [hww7]; exact hk4.out hbz hbz.size (fun k hk' e => by omega)
      have HZG := Lib.hid (And.intro hz hG)
      have HYG := Lib.hid (show w7.heap[G]? = some (.cells C 35 (0, 0)) from by rw [hww7]; exact setRow_heap _ _ _ _ _ _ hz)
      have HD7 := Lib.hid (And.intro ((hbn.block _ (Array.getElem?_eq_some_iff.1 ((hb6.block _ (Array.getElem?_eq_some_iff.1 HD5.out.1).1).trans HD5.out.1)).1).trans ((hb6.block _ (Array.getElem?_eq_some_iff.1 HD5.out.1).1).trans HD5.out.1)) (bt (bt HD5.out.2 hb6) hbn))
      have HY7 := Lib.hid (show w7.heap[P]? = some (.cells B 35 (0, 0)) from (hbn.block _ (Array.getElem?_eq_some_iff.1 ((hb6.block _ (Array.getElem?_eq_some_iff.1 HYP.out).1).trans HYP.out)).1).trans ((hb6.block _ (Array.getElem?_eq_some_iff.1 HYP.out).1).trans HYP.out))
      have HSM := Lib.hid (show Calls Try.prog 12 #[.agg B, .agg C] w7 fun e w' => e = .returned (.bool true) ∧ Below w7.heap.size w7 w' from by rw [HB.out.1, hC]; exact same_any q p w7 ((HQ5.out.2.below hb6).below hbn) (hop.below hbn) (HQ5.out.1.trans hcp.symm))
      clear hz hbz hk4 hG hb6 hcp hop hC HC5 hbn c1
      go_upto_region 13 with (refine wpList_store_row rfl 35 (.tmp 13) (.tmp 52) rfl G C (by rw [HZG.out.2]; rfl) rfl 35 _ HZG.out.1 (by rw [HC.out.2.1]; kernel_rfl) (by rw [HC.out.2.1]; rfl) HC.out.2.2 ?_)
      rw [← hww7, ← HZG.out.2]
      clear hww7
      go_wp2_with (first
        | (refine wpList_load_row rfl 35 (.tmp 11) rfl P rfl 35 B (0, 0) _ HY7.out Try.underlying35 rfl (by rw [HB.out.2.1]; kernel_rfl) ?_)
        | (refine wpList_load_row rfl 35 (.tmp 13) rfl G rfl 35 C (0, 0) _ HYG.out Try.underlying35 rfl (by rw [HC.out.2.1]; kernel_rfl) ?_))
      refine HSM.out.mono ?_
      rintro e w8 ⟨rfl, hb8⟩
      have HE := Lib.hid (show Hid (w8.heap[D]? = some (.cells #[.string s, .string S] 25 (0, 0)) ∧ Below w.heap.size w w8) from ⟨(hb8.block _ (Array.getElem?_eq_some_iff.1 HD7.out.1).1).trans HD7.out.1, bt HD7.out.2 hb8⟩)
      have hFF : (F != F) = false := by simp
      clear hb8
      go_wp2_with fail
      exact ⟨⟨2, by omega, by first | rfl | go_num, HE.out⟩, by first | decide | (simp [intOf])⟩
    · subst e
      go_wp2_with fail
      go_ret
      exact ⟨rfl, HW.out.2⟩
theorem packetParses_row (s : ByteArray) (k f : Int) (w : World) (hs9 : s.size ≤ 9223372036854775807) (hk : -9223372036854775808 ≤ k ∧ k ≤ 9223372036854775807) (hf : -9223372036854775808 ≤ f ∧ f ≤ 9223372036854775807) :
    Calls Try.prog 3 #[.string s, .int .i64 k, .int .i64 f] w fun e w' => e = .returned (.bool true) ∧ Below w.heap.size w w' := law_packetParses s k f w hs9
end Go.Proofs.Ytgpojbmloielmaa
