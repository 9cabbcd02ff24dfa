/-
  PacketApart: a clean packet shares no memory with what it was cleaned of.
  Conditions: the packet is read.
-/
import Derived.Test.YtgpojbmloielmaaPackLF
namespace Go.Proofs.Ytgpojbmloielmaa
set_option linter.unusedVariables false
set_option linter.unusedSimpArgs false
open Go.RowKit
set_option maxRecDepth 100000 in
set_option maxHeartbeats 4000000 in
theorem law_packetApart (p : Pkt) (w : World) (hp : PktRd w p) : Calls Try.prog 7 #[.agg (pktA p)] w fun e w' => e = .returned (.bool true) ∧ Below w.heap.size w w' := by
  obtain ⟨N, hN⟩ : ∃ N, N = w.heap.size := ⟨_, rfl⟩
  obtain ⟨W, hW⟩ : ∃ W, W = w.alloc (.cells (pktA p) 35) := ⟨_, rfl⟩
  obtain ⟨A, hA⟩ : ∃ A, A = pktA p := ⟨_, rfl⟩
  have hbA := ba (br w) (.cells (pktA p) 35)
  have hxA := heap_alloc_new w (.cells (pktA p) 35)
  rw [← hW] at hxA hbA
  rw [← hN, ← hA] at hxA
  have hma : pktA p = #[.int .i64 p.kind, .int .i64 p.frm, .int .i64 p.dst, .int .u64 (p.ce : Int), .int .i64 p.cr, .int .i64 p.m.frm, .int .u32 (p.m.seq : Int), .int .u64 (p.m.stamp : Int), .int .i64 p.m.service, .slice p.m.da p.m.ds.length p.m.dc, .string p.m.pay, .int .u64 (p.stamp : Int), .int .u32 (p.sent : Int), .slice p.ga p.got.length p.gc, .int .u64 (p.hor : Int), .int .i64 p.whom, .int .u32 (p.seq : Int), .int .u64 (p.mem : Int), .int .u64 (p.pe : Int), .int .i64 p.pr, .int .u64 (p.epoch : Int), .slice p.xa p.xs.length p.xc] := rfl
  rw [hma] at hW ⊢
  have HA := Lib.hid (And.intro hA (show A.size = 22 by rw [hA]; rfl))
  have HB := Lib.hid hbA
  have HX := Lib.hid hxA
  have HP := Lib.hid hp
  clear hxA hbA hp hA
  go_enter Try.func7, Try.ntmps7
  go_upto_region 1 with (fail)
  rw [← hW, ← hN]
  clear hma hW hN
  go_wp2_with fail
  refine (awake_any W).mono ?_
  rintro e w1 ⟨rfl, hb1⟩
  have HX1 := Lib.hid ((hb1.block _ (Array.getElem?_eq_some_iff.1 HX.out).1).trans HX.out)
  have HB1 := Lib.hid (bt HB.out hb1)
  have HF := Lib.hid (show Calls Try.prog 13 #[.agg A] w1 fun e w' => FewR p e ∧ Below w1.heap.size w1 w' from by rw [HA.out.1]; exact Few_any p w1 (PktRd.below HP.out HB1.out))
  clear hb1
  go_wp2_with (refine wpList_load_row rfl 35 (.tmp 1) rfl N rfl 35 A (0, 0) _ HX1.out Try.underlying35 rfl (by rw [HA.out.2]; kernel_rfl) ?_)
  refine HF.out.mono ?_
  rintro e w2 ⟨⟨b, rfl, hf⟩, hb2⟩
  have HX2 := Lib.hid ((hb2.block _ (Array.getElem?_eq_some_iff.1 HX1.out).1).trans HX1.out)
  have HB2 := Lib.hid (bt HB1.out hb2)
  have HFew := Lib.hid hf
  clear hb2 hf HF
  cases b
  · go_wp2_with fail
    go_ret
    exact ⟨rfl, HB2.out⟩
  have HK := Lib.hid (HP.out.ok (HFew.out rfl))
  have HC := Lib.hid (show Calls Try.prog 16 #[.agg A] w2 fun e w' => OwnEnd (selP p) w2 e w' from by rw [HA.out.1]; exact clean_any p w2 (HK.out.below HB2.out))
  go_wp2_with (refine wpList_load_row rfl 35 (.tmp 1) rfl N rfl 35 A (0, 0) _ HX2.out Try.underlying35 rfl (by rw [HA.out.2]; kernel_rfl) ?_)
  refine HC.out.mono ?_
  rintro e w3 ⟨⟨q, rfl, hcq, hoq⟩, hb3⟩
  have HX3 := Lib.hid ((hb3.block _ (Array.getElem?_eq_some_iff.1 HX2.out).1).trans HX2.out)
  have HB3 := Lib.hid (bt HB2.out hb3)
  have HQ := Lib.hid (And.intro hcq (OwnPk.ok hoq hcq (selP_ok (HK.out.below HB2.out))))
  obtain ⟨B, hB⟩ : ∃ B, B = pktA q := ⟨_, rfl⟩
  have HBq := Lib.hid (And.intro hB (And.intro (show B.size = 22 by rw [hB]; rfl) (show B.all (·.oneCell') = true by rw [hB]; exact oneCell_pktA q)))
  rw [← hB]
  obtain ⟨P, hP⟩ : ∃ P, P = w3.heap.size := ⟨_, rfl⟩
  have hz := heap_alloc_new w3 (.cells (pktA zeroP) 35)
  have hbz := ba (br w3) (.cells (pktA zeroP) 35)
  rw [show pktA zeroP = #[.int .i64 0, .int .i64 0, .int .i64 0, .int .u64 0, .int .i64 0, .int .i64 0, .int .u32 0, .int .u64 0, .int .i64 0, .slice none 0 0, .string ⟨#[]⟩, .int .u64 0, .int .u32 0, .slice none 0 0, .int .u64 0, .int .i64 0, .int .u32 0, .int .u64 0, .int .u64 0, .int .i64 0, .int .u64 0, .slice none 0 0] from rfl] at hz hbz
  rw [← hP] at hz
  obtain ⟨w4, hw4⟩ : ∃ w4, w4 = (w3.alloc (.cells #[.int .i64 0, .int .i64 0, .int .i64 0, .int .u64 0, .int .i64 0, .int .i64 0, .int .u32 0, .int .u64 0, .int .i64 0, .slice none 0 0, .string ⟨#[]⟩, .int .u64 0, .int .u32 0, .slice none 0 0, .int .u64 0, .int .i64 0, .int .u32 0, .int .u64 0, .int .u64 0, .int .i64 0, .int .u64 0, .slice none 0 0] 35)).setRow P B := ⟨_, rfl⟩
  have hk4 := kept_setRow (w3.alloc (.cells #[.int .i64 0, .int .i64 0, .int .i64 0, .int .u64 0, .int .i64 0, .int .i64 0, .int .u32 0, .int .u64 0, .int .i64 0, .slice none 0 0, .string ⟨#[]⟩, .int .u64 0, .int .u32 0, .slice none 0 0, .int .u64 0, .int .i64 0, .int .u32 0, .int .u64 0, .int .u64 0, .int .i64 0, .int .u64 0, .slice none 0 0] 35)) P B
  have hb34 : Below w3.heap.size w3 w4 := by rw [hw4]; exact hk4.out hbz hbz.size (fun k hk' e => by omega)
  have HZ := Lib.hid (And.intro hz hP)
  have HY4 := Lib.hid (show w4.heap[P]? = some (.cells B 35 (0, 0)) from by rw [hw4]; exact setRow_heap _ _ _ _ _ _ hz)
  have HX4 := Lib.hid ((hb34.block _ (Array.getElem?_eq_some_iff.1 HX3.out).1).trans HX3.out)
  have HB4 := Lib.hid (bt HB3.out hb34)
  have HQ4 := Lib.hid (And.intro HQ.out.1 (HQ.out.2.below hb34))
  have HAp := Lib.hid (show ApSt w2.heap.size P w2 w4 q from ⟨(WkP.of_own hoq).below hb34, HBq.out.1 ▸ HY4.out, bt hb3 hb34⟩)
  have HLn := Lib.hid (OwnPk.ok hoq hcq (selP_ok (HK.out.below HB2.out)))
  clear hz hbz hk4 hP hb3 hcq hoq hB HC hb34 HB3 HB4 HQ HQ4 HX3 HX4
  go_upto_region 6 with (refine wpList_store_row rfl 35 (.tmp 3) (.tmp 14) rfl P B (by rw [HZ.out.2]; rfl) rfl 35 _ HZ.out.1 (by rw [HBq.out.2.1]; kernel_rfl) (by rw [HBq.out.2.1]; rfl) HBq.out.2.2 ?_)
  rw [← hw4, ← HZ.out.2]
  clear hw4
  go_wp2_with fail
  have hln : q.got.length ≤ 35184372087808 := HLn.out.got.1
  go_loopw [4] (fun i wr => ∃ k : Nat, k ≤ q.got.length ∧ i = .int .i64 (k : Int) ∧ ApSt w2.heap.size P w2 wr q) (fun i _ => q.got.length - (intOf i).toNat)
  case atStart => exact ⟨0, by omega, rfl, HAp.out⟩
  case round =>
    obtain ⟨k, hk, rfl, hs⟩ := hrel
    have c7 : wr.cell? ⟨P, 13, none⟩ = some (.slice q.ga q.got.length q.gc) := (cell_of_row _ _ _ _ _ _ hs.var).trans rfl
    by_cases hlt : k < q.got.length
    · have hbool : decide (k < q.got.length) = true := by simpa using hlt
      have hbool' : decide ((k : Int) < (q.got.length : Int)) = true := by simpa using hlt
      have hki : (k : Int) < (q.got.length : Int) := by omega
      obtain ⟨b, cs, eda, hB, hcs, hints⟩ := hs.rows.got (by omega)
      obtain ⟨y, hy⟩ := hints k hlt
      have c5 : wr.cell? ⟨b, k, none⟩ = some (.int .u32 y) := (cell_of_row _ _ _ _ _ _ hcs).trans hy
      have f5 : wr.frozen? ⟨b, k, none⟩ = false := frozen_of_row _ _ _ _ _ hcs
      have HN := Lib.hid (show ∀ (n : Nat) (z : Int), ApSt w2.heap.size P w2 ((wr.drewN n).setCell ⟨b, k, none⟩ (.int .u32 z)) q from fun n z => (hs.drewN n).setNum hB hcs z)
      rw [eda] at c7
      have HJ := Lib.hid hlt
      clear hs eda hB hcs hints hy hlt
      generalize q.got.length = n at *
      go_wp2_with fail
      refine wp_region_drew_tail 9 (by kernel_rfl) (by kernel_rfl) ?_
      simp only [List.take_succ_cons, List.take_zero, List.drop_succ_cons, List.drop_zero]
      repeat (go_big_quiet_step ((fail)))
      refine wpQuiet_nil ?_
      intro w5 hw5
      obtain ⟨nq, rfl⟩ := hw5
      go_wp2
      exact ⟨⟨k + 1, HJ.out, by go_num, HN.out _ _⟩, measI HJ.out⟩
    · have hbool : decide (k < q.got.length) = false := by simpa using hlt
      have hbool' : decide ((k : Int) < (q.got.length : Int)) = false := by simpa using hlt
      replace HAp := Lib.hid hs
      clear hs
      go_wp2_with fail
      clear hln hlt hbool hbool' hk c7
      go_wp2_with fail
      have hln : q.m.ds.length ≤ 35184372087808 := HLn.out.m.2.2.2.1
      go_loopw [5] (fun i wr => ∃ k : Nat, k ≤ q.m.ds.length ∧ i = .int .i64 (k : Int) ∧ ApSt w2.heap.size P w2 wr q) (fun i _ => q.m.ds.length - (intOf i).toNat)
      case atStart => exact ⟨0, by omega, rfl, HAp.out⟩
      case round =>
        obtain ⟨k, hk, rfl, hs⟩ := hrel
        have c7 : wr.cell? ⟨P, 9, none⟩ = some (.slice q.m.da q.m.ds.length q.m.dc) := (cell_of_row _ _ _ _ _ _ hs.var).trans rfl
        by_cases hlt : k < q.m.ds.length
        · have hbool : decide (k < q.m.ds.length) = true := by simpa using hlt
          have hbool' : decide ((k : Int) < (q.m.ds.length : Int)) = true := by simpa using hlt
          have hki : (k : Int) < (q.m.ds.length : Int) := by omega
          obtain ⟨b, cs, eda, hB, hcs, hints⟩ := hs.rows.ds (by omega)
          obtain ⟨y, hy⟩ := hints k hlt
          have c5 : wr.cell? ⟨b, k, none⟩ = some (.int .u32 y) := (cell_of_row _ _ _ _ _ _ hcs).trans hy
          have f5 : wr.frozen? ⟨b, k, none⟩ = false := frozen_of_row _ _ _ _ _ hcs
          have HN := Lib.hid (show ∀ (n : Nat) (z : Int), ApSt w2.heap.size P w2 ((wr.drewN n).setCell ⟨b, k, none⟩ (.int .u32 z)) q from fun n z => (hs.drewN n).setNum hB hcs z)
          rw [eda] at c7
          have HJ := Lib.hid hlt
          clear hs eda hB hcs hints hy hlt
          generalize q.m.ds.length = n at *
          go_wp2_with fail
          refine wp_region_drew_tail 11 (by kernel_rfl) (by kernel_rfl) ?_
          simp only [List.take_succ_cons, List.take_zero, List.drop_succ_cons, List.drop_zero]
          repeat (go_big_quiet_step ((fail)))
          refine wpQuiet_nil ?_
          intro w5 hw5
          obtain ⟨nq, rfl⟩ := hw5
          go_wp2
          exact ⟨⟨k + 1, HJ.out, by go_num, HN.out _ _⟩, measI HJ.out⟩
        · have hbool : decide (k < q.m.ds.length) = false := by simpa using hlt
          have hbool' : decide ((k : Int) < (q.m.ds.length : Int)) = false := by simpa using hlt
          replace HAp := Lib.hid hs
          clear hs
          go_wp2_with fail
          clear hln hlt hbool hbool' hk c7
          go_wp2_with fail
          have hln : q.xs.length ≤ 35184372087808 := Nat.le_trans HLn.out.xs.1 (by decide)
          go_loopw [6] (fun i wr => ∃ k : Nat, k ≤ q.xs.length ∧ i = .int .i64 (k : Int) ∧ ApSt w2.heap.size P w2 wr q) (fun i _ => q.xs.length - (intOf i).toNat)
          case atStart => exact ⟨0, by omega, rfl, HAp.out⟩
          case round =>
            obtain ⟨k, hk, rfl, hs⟩ := hrel
            have c7 : wr.cell? ⟨P, 21, none⟩ = some (.slice q.xa q.xs.length q.xc) := (cell_of_row _ _ _ _ _ _ hs.var).trans rfl
            by_cases hlt : k < q.xs.length
            · have hbool : decide (k < q.xs.length) = true := by simpa using hlt
              have hbool' : decide ((k : Int) < (q.xs.length : Int)) = true := by simpa using hlt
              have hki : (k : Int) < (q.xs.length : Int) := by omega
              have HXm := Lib.hid (List.getElem_mem hlt : q.xs[k] ∈ q.xs)
              have hlc : q.xs[k].cs.length ≤ 35184372087808 := (HLn.out.xs.2 k hlt).1.2.2.1
              obtain ⟨g, cur, exa, hgB, hgr, hgx⟩ := hs.rows.row (by omega)
              obtain ⟨⟨y, hy⟩, hc3⟩ := hgx k hlt
              have c5 : wr.cell? ⟨g, k * 6, none⟩ = some (.int .i64 y) := (cell_of_row _ _ _ _ _ _ hgr).trans hy
              have f5 : wr.frozen? ⟨g, k * 6, none⟩ = false := frozen_of_row _ _ _ _ _ hgr
              have HN := Lib.hid (show ∀ (n : Nat) (z : Int), ApSt w2.heap.size P w2 ((wr.drewN n).setCell ⟨g, k * 6, none⟩ (.int .i64 z)) q from fun n z => (hs.drewN n).setWho exa hlt z)
              have HRow := Lib.hid (show ∀ w', ApSt w2.heap.size P w2 w' q → w'.cell? ⟨g, k * 6 + 3, none⟩ = some (.slice q.xs[k].ca q.xs[k].cs.length q.xs[k].cc) from fun w' h' => by
                obtain ⟨g', cur', e, _, h1, h2⟩ := h'.rows.row (by omega)
                rw [exa] at e
                injection e with e
                injection e with e
                subst e
                exact (cell_of_row _ _ _ _ _ _ h1).trans (h2 k hlt).2)
              have HVar := Lib.hid (show ∀ w', ApSt w2.heap.size P w2 w' q → w'.cell? ⟨P, 21, none⟩ = some (.slice (some ⟨g, 0, none⟩) q.xs.length q.xc) from fun w' h' => by rw [← exa]; exact (cell_of_row _ _ _ _ _ _ h'.var).trans rfl)
              rw [exa] at c7
              obtain ⟨x, hx⟩ : ∃ x, x = q.xs[k] := ⟨_, rfl⟩
              rw [← hx] at HXm hlc HRow
              have HJ := Lib.hid hlt
              clear hs exa hgB hgr hgx hy hc3 hx hlt
              generalize q.xs.length = n at *
              go_wp2_with fail
              refine wp_region_drew_tail 10 (by kernel_rfl) (by kernel_rfl) ?_
              simp only [List.take_succ_cons, List.take_zero, List.drop_succ_cons, List.drop_zero]
              repeat (go_big_quiet_step ((fail)))
              refine wpQuiet_nil ?_
              intro w5 hw5
              obtain ⟨nq, rfl⟩ := hw5
              skip
              go_wp2_with fail
              obtain ⟨wo, hwo⟩ : ∃ wo : World, wo = wr := ⟨_, rfl⟩
              clear c7 c5 f5 hwo
              go_loopw [7] (fun i wr => ∃ j : Nat, j ≤ x.cs.length ∧ i = .int .i64 (j : Int) ∧ ApSt w2.heap.size P w2 wr q) (fun i _ => x.cs.length - (intOf i).toNat)
              case atStart => exact ⟨0, by omega, rfl, HN.out _ _⟩
              case round =>
                obtain ⟨j, hj, rfl, hs⟩ := hrel
                have c4 := HRow.out wr hs
                have c7 := HVar.out wr hs
                by_cases hj2 : j < x.cs.length
                · have hb2 : decide (j < x.cs.length) = true := by simpa using hj2
                  have hb2' : decide ((j : Int) < (x.cs.length : Int)) = true := by simpa using hj2
                  have hji : (j : Int) < (x.cs.length : Int) := by omega
                  obtain ⟨b, cs, eda, hB, hcs, hints⟩ := hs.rows.cs x HXm.out (by omega)
                  obtain ⟨y, hy⟩ := hints j hj2
                  have c5 : wr.cell? ⟨b, j, none⟩ = some (.int .u32 y) := (cell_of_row _ _ _ _ _ _ hcs).trans hy
                  have f5 : wr.frozen? ⟨b, j, none⟩ = false := frozen_of_row _ _ _ _ _ hcs
                  have HN2 := Lib.hid (show ∀ (n : Nat) (z : Int), ApSt w2.heap.size P w2 ((wr.drewN n).setCell ⟨b, j, none⟩ (.int .u32 z)) q from fun n z => (hs.drewN n).setNum hB hcs z)
                  rw [eda] at c4
                  have HJ2 := Lib.hid hj2
                  clear hs eda hB hcs hints hy hj2
                  generalize x.cs.length = m at *
                  go_wp2_with fail
                  refine wp_region_drew_tail 17 (by kernel_rfl) (by kernel_rfl) ?_
                  simp only [List.take_succ_cons, List.take_zero, List.drop_succ_cons, List.drop_zero]
                  repeat (go_big_quiet_step ((fail)))
                  refine wpQuiet_nil ?_
                  intro w5 hw5
                  obtain ⟨nq, rfl⟩ := hw5
                  go_wp2
                  exact ⟨⟨j + 1, HJ2.out, by go_num, HN2.out _ _⟩, measI HJ2.out⟩
                · have hb2 : decide (j < x.cs.length) = false := by simpa using hj2
                  have hb2' : decide ((j : Int) < (x.cs.length : Int)) = false := by simpa using hj2
                  have HE := Lib.hid hs
                  clear hs
                  go_wp2
                  exact ⟨⟨k + 1, HJ.out, by go_num, HE.out⟩, measI HJ.out⟩
            · have hbool : decide (k < q.xs.length) = false := by simpa using hlt
              have hbool' : decide ((k : Int) < (q.xs.length : Int)) = false := by simpa using hlt
              replace HAp := Lib.hid hs
              clear hs
              go_wp2_with fail
              clear hln hlt hbool hbool' hk c7
              have HX6 := Lib.hid ((HAp.out.bel.block _ (Array.getElem?_eq_some_iff.1 HX2.out).1).trans HX2.out)
              have HB6 := Lib.hid (bt HB2.out HAp.out.bel)
              have hrg : wr.drew.rangeAt N 0 A.toList := range_of_block (show wr.drew.heap[N]? = _ from HX6.out)
              refine wp_region_maskP (fun w' => w'.rangeAt N 0 A.toList) 5 4 [true, false, true, false, false, false] #[true, false, true, false, false, false] (by kernel_rfl) (by kernel_rfl) (by kernel_rfl) (fun c a d v w h => by cases d <;> exact h) hrg ?_
              have HX7 := Lib.hid (show wr.drew.heap[N]? = _ from HX6.out)
              have HB7 := Lib.hid (bt HB6.out (br wr).drew)
              clear hrg HAp HLn
              generalize wr.drew = w7 at *
              refine wpMask_take _ (yieldsIf_load_mid (by rfl) 35 (.tmp 1) rfl N 0 rfl A.toList _ (fun w' hS => hS) Try.underlying35 rfl (by rw [Array.length_toList, HA.out.2]; kernel_rfl)) ?_
              simp only [Act.put, List.setIfInBounds_toArray, List.set_cons_zero, List.set_cons_succ]
              refine wpMask_skip ?_
              refine wpMask_take _ (yieldsIf_load_mid (by rfl) 35 (.tmp 1) rfl N 0 rfl A.toList _ (fun w' hS => hS) Try.underlying35 rfl (by rw [Array.length_toList, HA.out.2]; kernel_rfl)) ?_
              simp only [Act.put, List.setIfInBounds_toArray, List.set_cons_zero, List.set_cons_succ]
              refine wpMask_skip (wpMask_skip (wpMask_skip (wpMask_nil ?_)))
              have HC7 := Lib.hid (show Calls Try.prog 16 #[.agg A] w7 fun e w' => OwnEnd (selP p) w7 e w' from by rw [HA.out.1]; exact clean_any p w7 (HK.out.below HB7.out))
              refine wpAnyS_ready (rs := [1]) (by kernel_rfl) (by simp) ?_
              refine AllReadyS.cons rfl (fun K hK => ?_) AllReadyS.nil
              go_simp
              refine HC7.out.mono ?_
              rintro e w8 ⟨⟨q1, rfl, hc1, ho1⟩, hb8⟩
              have HX8 := Lib.hid ((hb8.block _ (Array.getElem?_eq_some_iff.1 HX7.out).1).trans HX7.out)
              have HB8 := Lib.hid (bt HB7.out hb8)
              have HQ1 := Lib.hid (And.intro hc1 (OwnPk.ok ho1 hc1 (selP_ok (HK.out.below HB7.out))))
              have HC8 := Lib.hid (show Calls Try.prog 17 #[.agg A] w8 fun e w' => e = .returned (.agg (pktA (selP p))) ∧ Below w8.heap.size w8 w' from by rw [HA.out.1]; exact refClean_any p w8)
              refine hK.out _ _ (fun _ => range_of_block HX8.out) ?_
              clear hK K hc1 ho1 hb8 HC7
              simp only [Act.put, List.setIfInBounds_toArray, List.set_cons_zero, List.set_cons_succ]
              refine wpAnyS_ready (rs := [3]) (by kernel_rfl) (by simp) ?_
              refine AllReadyS.cons rfl (fun K hK => ?_) AllReadyS.nil
              go_simp
              refine HC8.out.mono ?_
              rintro e w9 ⟨rfl, hb9⟩
              have HX9 := Lib.hid ((hb9.block _ (Array.getElem?_eq_some_iff.1 HX8.out).1).trans HX8.out)
              have HB9 := Lib.hid (bt HB8.out hb9)
              have HC9 := Lib.hid (show Calls Try.prog 12 #[.agg (pktA q1), .agg (pktA (selP p))] w9 fun e w' => e = .returned (.bool true) ∧ Below w9.heap.size w9 w' from same_any q1 (selP p) w9 (HQ1.out.2.below hb9) (selP_ok (HK.out.below HB9.out)) HQ1.out.1)
              refine hK.out _ _ (fun _ => range_of_block HX9.out) ?_
              clear hK K hb9 HC8
              simp only [Act.put, List.setIfInBounds_toArray, List.set_cons_zero, List.set_cons_succ]
              refine wpAnyS_ready (rs := [4]) (by kernel_rfl) (by simp) ?_
              refine AllReadyS.cons rfl (fun K hK => ?_) AllReadyS.nil
              go_simp
              refine HC9.out.mono ?_
              rintro e w10 ⟨rfl, hb10⟩
              have HX10 := Lib.hid ((hb10.block _ (Array.getElem?_eq_some_iff.1 HX9.out).1).trans HX9.out)
              have HB10 := Lib.hid (bt HB9.out hb10)
              have HE := Lib.hid HB10.out
              refine hK.out _ _ (fun _ => range_of_block HX10.out) ?_
              clear hK K hb10 HC9
              simp only [Act.put, List.setIfInBounds_toArray, List.set_cons_zero, List.set_cons_succ]
              refine wpAnyS_ready (rs := [5]) (by kernel_rfl) (by simp) ?_
              refine AllReadyS.cons rfl (fun K hK => ?_) AllReadyS.nil
              go_simp
              refine hK.out _ _ (fun h => absurd h (by decide)) ?_
              clear hK K
              simp only [Act.put, List.setIfInBounds_toArray, List.set_cons_zero, List.set_cons_succ]
              refine wpAnyS_doneP (by kernel_rfl) ?_ _
              go_wp2_with fail
              go_ret
              exact ⟨rfl, HE.out⟩
section
open Go.ChangeShapes Go.WideShapes Go.Deep
variable {H : Type} {enc : TypeId × Value → H} {w : World} {base : Nat} {spare : Nat → Bool} {held : Bool}
set_option maxRecDepth 100000 in
theorem packetApart_row {r : Reach} {b0 : Nat} {d : DataW H} {pl : List MemPlace} (v : Value) (w : World) (hv : Value.okWide Try.prog w r b0 35 v) (h : DataW.Trod enc Try.prog w base spare held 35 v d pl) (hz : ∀ n ∈ d.weights Try.prog 35, n ≤ reachBytes) :
    Calls Try.prog 7 #[v] w fun e w' => e = .returned (.bool true) ∧ Below w.heap.size w w' := by
  obtain ⟨p, rfl, hp⟩ := pkt_arg hv h hz
  exact law_packetApart p w hp
end
end Go.Proofs.Ytgpojbmloielmaa
