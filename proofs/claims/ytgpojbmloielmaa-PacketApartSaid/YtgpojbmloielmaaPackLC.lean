/-
  PacketPrints: what is printed is the document's, or refused as it says; what is cleaned is as it says.
  Conditions: the packet is read.
-/
import Derived.Test.YtgpojbmloielmaaPackLB
namespace Go.Proofs.Ytgpojbmloielmaa
set_option linter.unusedVariables false
set_option linter.unusedSimpArgs false
open Go.RowKit
theorem OwnPk.ok {w : World} {B : Nat} {q p : Pkt} (ho : OwnPk B w q) (hc : coreP q = coreP p) {w0 : World} (hp : PktOk w0 p) : PktOk w q := by
  have hx := (coreP_eq hc).2
  have e : ∀ {α : Type} (f : Pkt → α), f (coreP q) = f (coreP p) := fun f => congrArg f hc
  have hg : q.got = p.got := e Pkt.got
  have hd : q.m.ds = p.m.ds := e (fun p => p.m.ds)
  have hl : q.xs.length = p.xs.length := by have := congrArg List.length hx; simpa using this
  have hnum : ∀ {da da2 : Option Addr} {ds : List Nat} {dc : Nat}, OwnN B w da ds dc → NumsOk w0 da2 ds → NumsOk w da ds := fun h1 h2 => h1.nums h2.1 (fun d hd => by
    obtain ⟨i, hi, rfl⟩ := List.getElem_of_mem hd
    exact (h2.2 i hi).1)
  refine ⟨by have := e Pkt.ce; have h := hp.ce; exact this ▸ h, ⟨?_, ?_, ?_, ?_⟩, by have := e Pkt.stamp; have h := hp.stamp; exact this ▸ h, by have := e Pkt.sent; have h := hp.sent; exact this ▸ h, ?_, by have := e Pkt.hor; have h := hp.hor; exact this ▸ h, by have := e Pkt.seq; have h := hp.seq; exact this ▸ h, by have := e Pkt.mem; have h := hp.mem; exact this ▸ h, by have := e Pkt.pe; have h := hp.pe; exact this ▸ h, by have := e Pkt.epoch; have h := hp.epoch; exact this ▸ h, ?_, ?_⟩
  · have := e (fun p => p.m.pay); have h := hp.m.1; exact this ▸ h
  · have := e (fun p => p.m.seq); have h := hp.m.2.1; exact this ▸ h
  · have := e (fun p => p.m.stamp); have h := hp.m.2.2.1; exact this ▸ h
  · exact hnum ho.ds (by have h := hp.m.2.2.2; rw [hd]; exact h)
  · exact hnum ho.got (by have h := hp.got; rw [hg]; exact h)
  · rw [hl]; exact hp.xs.1
  · intro i hi
    have hi2 : i < p.xs.length := by omega
    obtain ⟨⟨h1, h2, h3⟩, _⟩ := hp.xs.2 i hi2
    have hxi : coreX q.xs[i] = coreX p.xs[i] := by
      have := List.getElem_of_eq hx (i := i) (by simpa using hi)
      simpa using this
    obtain ⟨g, eg, _, hg2, hr⟩ := own_ex ho.xs hi
    refine ⟨⟨by have := congrArg Exch.oe hxi; have h := h1; exact (show q.xs[i].oe = p.xs[i].oe from this) ▸ h, by have := congrArg Exch.ls hxi; have h := h2; exact (show q.xs[i].ls = p.xs[i].ls from this) ▸ h, ?_⟩, g, 0, eg, hg2, by rw [Nat.zero_add]; exact hr⟩
    have hcs : q.xs[i].cs = p.xs[i].cs := by have := congrArg Exch.cs hxi; exact this
    exact hnum (ho.cs _ (List.getElem_mem hi)) (by rw [hcs]; exact h3)
theorem PktRd.below {w w' : World} {p : Pkt} (h : PktRd w p) (hb : Below w.heap.size w w') : PktRd w' p :=
  ⟨h.ce, ⟨h.m.1, h.m.2.1, h.m.2.2.1, NumsOk.below h.m.2.2.2 hb⟩, h.stamp, h.sent, NumsOk.below h.got hb, h.hor, h.seq, h.mem, h.pe, h.epoch, ExsRd.below' h.xs hb⟩
set_option maxRecDepth 100000 in
set_option maxHeartbeats 8000000 in
theorem law_packetPrints (p : Pkt) (w : World) (hp : PktRd w p) : Calls Try.prog 4 #[.agg (pktA p)] w fun e w' => e = .returned (.bool true) ∧ Below w.heap.size w w' := by
  obtain ⟨N, hN⟩ : ∃ N, N = w.heap.size := ⟨_, rfl⟩
  obtain ⟨W, hW⟩ : ∃ W, W = w.alloc (.cells (pktA p) 35) := ⟨_, rfl⟩
  obtain ⟨A, hA⟩ : ∃ A, A = pktA p := ⟨_, rfl⟩
  have hbA := ba (br w) (.cells (pktA p) 35)
  have hxA := heap_alloc_new w (.cells (pktA p) 35)
  rw [← hW] at hxA hbA
  rw [← hN, ← hA] at hxA
  have hma : pktA p = #[.int .i64 p.kind, .int .i64 p.frm, .int .i64 p.dst, .int .u64 (p.ce : Int), .int .i64 p.cr, .int .i64 p.m.frm, .int .u32 (p.m.seq : Int), .int .u64 (p.m.stamp : Int), .int .i64 p.m.service, .slice p.m.da p.m.ds.length p.m.dc, .string p.m.pay, .int .u64 (p.stamp : Int), .int .u32 (p.sent : Int), .slice p.ga p.got.length p.gc, .int .u64 (p.hor : Int), .int .i64 p.whom, .int .u32 (p.seq : Int), .int .u64 (p.mem : Int), .int .u64 (p.pe : Int), .int .i64 p.pr, .int .u64 (p.epoch : Int), .slice p.xa p.xs.length p.xc] := rfl
  rw [hma] at hW ⊢
  have HA := Lib.hid (And.intro hA (show A.size = 22 by rw [hA]; rfl))
  have HB := Lib.hid hbA
  have HX := Lib.hid hxA
  have HP := Lib.hid hp
  clear hxA hbA hp hA
  go_enter Try.func4, Try.ntmps4
  go_upto_region 1 with (fail)
  rw [← hW, ← hN]
  clear hma hW hN
  go_wp2_with fail
  refine (awake_any W).mono ?_
  rintro e w1 ⟨rfl, hb1⟩
  have HX1 := Lib.hid ((hb1.block _ (Array.getElem?_eq_some_iff.1 HX.out).1).trans HX.out)
  have HB1 := Lib.hid (bt HB.out hb1)
  have HF := Lib.hid (show Calls Try.prog 13 #[.agg A] w1 fun e w' => FewR p e ∧ Below w1.heap.size w1 w' from by rw [HA.out.1]; exact Few_any p w1 (PktRd.below HP.out HB1.out))
  clear hb1
  go_wp2_with (refine wpList_load_row rfl 35 (.tmp 1) rfl N rfl 35 A (0, 0) _ HX1.out Try.underlying35 rfl (by rw [HA.out.2]; kernel_rfl) ?_)
  refine HF.out.mono ?_
  rintro e w2 ⟨⟨b, rfl, hf⟩, hb2⟩
  have HX2 := Lib.hid ((hb2.block _ (Array.getElem?_eq_some_iff.1 HX1.out).1).trans HX1.out)
  have HB2 := Lib.hid (bt HB1.out hb2)
  have HFew := Lib.hid hf
  clear hb2 hf HF
  cases b
  · go_wp2_with fail
    go_ret
    exact ⟨rfl, HB2.out⟩
  have HK := Lib.hid (HP.out.ok (HFew.out rfl))
  have HC := Lib.hid (show Calls Try.prog 14 #[.agg A] w2 fun e w' => e = .returned (.tuple #[.string (pktS p), .int .i64 (pktE p)]) ∧ Below w2.heap.size w2 w' from by rw [HA.out.1]; exact pkPrint_any p w2 (HK.out.below HB2.out))
  go_wp2_with (refine wpList_load_row rfl 35 (.tmp 1) rfl N rfl 35 A (0, 0) _ HX2.out Try.underlying35 rfl (by rw [HA.out.2]; kernel_rfl) ?_)
  refine HC.out.mono ?_
  rintro e w3 ⟨rfl, hb3⟩
  have HX3 := Lib.hid ((hb3.block _ (Array.getElem?_eq_some_iff.1 HX2.out).1).trans HX2.out)
  have HB3 := Lib.hid (bt HB2.out hb3)
  have HC3 := Lib.hid (show Calls Try.prog 15 #[.agg A] w3 fun e w' => e = .returned (.tuple #[.string (pktS p), .int .i64 (pktE p)]) ∧ Below w3.heap.size w3 w' from by rw [HA.out.1]; exact refPkPrint_any p w3 (HK.out.below HB3.out))
  clear hb3 HC
  go_wp2_with (refine wpList_load_row rfl 35 (.tmp 1) rfl N rfl 35 A (0, 0) _ HX3.out Try.underlying35 rfl (by rw [HA.out.2]; kernel_rfl) ?_)
  refine HC3.out.mono ?_
  rintro e w4 ⟨rfl, hb4⟩
  have HX4 := Lib.hid ((hb4.block _ (Array.getElem?_eq_some_iff.1 HX3.out).1).trans HX3.out)
  have HB4 := Lib.hid (bt HB3.out hb4)
  clear hb4 HC3
  generalize pktS p = S at *
  generalize pktE p = E at *
  have hs : (S.toList == S.toList) = true := by simp
  go_upto_region 7 with (fail)
  have hrg : w4.drew.rangeAt N 0 A.toList := range_of_block (show w4.drew.heap[N]? = _ from HX4.out)
  refine wp_region_maskP (fun w' => w'.rangeAt N 0 A.toList) 15 5 [true, true, true, true, true, true, true, true, true, true, false, true, false, false, false, false] #[true, true, true, true, true, true, true, true, true, true, false, true, false, false, false, false] (by kernel_rfl) (by kernel_rfl) (by kernel_rfl) (fun c a d v w h => by cases d <;> exact h) hrg ?_
  have HX5 := Lib.hid (show w4.drew.heap[N]? = _ from HX4.out)
  have HB5 := Lib.hid (bt HB4.out (br w4).drew)
  clear hrg
  generalize w4.drew = w5 at *
  refine wpMask_take _ (Or.inl ⟨by rfl, fun w' hS => by (try dsimp only at hS); go_simp; try with_reducible rfl⟩) ?_
  simp only [Act.put, List.setIfInBounds_toArray, List.set_cons_zero, List.set_cons_succ]
  refine wpMask_take _ (Or.inl ⟨by rfl, fun w' hS => by (try dsimp only at hS); go_simp; try with_reducible rfl⟩) ?_
  simp only [Act.put, List.setIfInBounds_toArray, List.set_cons_zero, List.set_cons_succ]
  refine wpMask_take _ (Or.inl ⟨by rfl, fun w' hS => by (try dsimp only at hS); go_simp; try with_reducible rfl⟩) ?_
  simp only [Act.put, List.setIfInBounds_toArray, List.set_cons_zero, List.set_cons_succ]
  refine wpMask_take _ (Or.inl ⟨by rfl, fun w' hS => by (try dsimp only at hS); go_simp; try with_reducible rfl⟩) ?_
  simp only [Act.put, List.setIfInBounds_toArray, List.set_cons_zero, List.set_cons_succ]
  refine wpMask_take _ (Or.inl ⟨by rfl, fun w' hS => by (try dsimp only at hS); go_simp; try with_reducible rfl⟩) ?_
  simp only [Act.put, List.setIfInBounds_toArray, List.set_cons_zero, List.set_cons_succ]
  refine wpMask_take _ (Or.inl ⟨by rfl, fun w' hS => by (try dsimp only at hS); go_simp; try with_reducible rfl⟩) ?_
  simp only [Act.put, List.setIfInBounds_toArray, List.set_cons_zero, List.set_cons_succ]
  refine wpMask_take _ (Or.inl ⟨by rfl, fun w' hS => by (try dsimp only at hS); go_simp; try with_reducible rfl⟩) ?_
  simp only [Act.put, List.setIfInBounds_toArray, List.set_cons_zero, List.set_cons_succ]
  refine wpMask_take _ (Or.inl ⟨by rfl, fun w' hS => by (try dsimp only at hS); go_simp; try with_reducible rfl⟩) ?_
  simp only [Act.put, List.setIfInBounds_toArray, List.set_cons_zero, List.set_cons_succ]
  refine wpMask_take _ (Or.inl ⟨by rfl, fun w' hS => by (try dsimp only at hS); go_simp; try with_reducible rfl⟩) ?_
  simp only [Act.put, List.setIfInBounds_toArray, List.set_cons_zero, List.set_cons_succ]
  refine wpMask_take _ (yieldsIf_load_mid (by rfl) 35 (.tmp 1) rfl N 0 rfl A.toList _ (fun w' hS => hS) Try.underlying35 rfl (by rw [Array.length_toList, HA.out.2]; kernel_rfl)) ?_
  simp only [Act.put, List.setIfInBounds_toArray, List.set_cons_zero, List.set_cons_succ]
  refine wpMask_skip ?_
  refine wpMask_take _ (yieldsIf_load_mid (by rfl) 35 (.tmp 1) rfl N 0 rfl A.toList _ (fun w' hS => hS) Try.underlying35 rfl (by rw [Array.length_toList, HA.out.2]; kernel_rfl)) ?_
  simp only [Act.put, List.setIfInBounds_toArray, List.set_cons_zero, List.set_cons_succ]
  refine wpMask_skip (wpMask_skip (wpMask_skip (wpMask_skip (wpMask_nil ?_))))
  have HC5 := Lib.hid (show Calls Try.prog 16 #[.agg A] w5 fun e w' => OwnEnd (selP p) w5 e w' from by rw [HA.out.1]; exact clean_any p w5 (HK.out.below HB5.out))
  refine wpAnyS_ready (rs := [10]) (by kernel_rfl) (by simp) ?_
  refine AllReadyS.cons rfl (fun K hK => ?_) AllReadyS.nil
  go_simp
  refine HC5.out.mono ?_
  rintro e w6 ⟨⟨q, rfl, hcq, hoq⟩, hb6⟩
  have HX6 := Lib.hid ((hb6.block _ (Array.getElem?_eq_some_iff.1 HX5.out).1).trans HX5.out)
  have HB6 := Lib.hid (bt HB5.out hb6)
  have HQ := Lib.hid (And.intro hcq (OwnPk.ok hoq hcq (selP_ok (HK.out.below HB5.out))))
  refine hK.out _ _ (fun _ => range_of_block HX6.out) ?_
  clear hK K hcq hoq hb6 HC5
  simp only [Act.put, List.setIfInBounds_toArray, List.set_cons_zero, List.set_cons_succ]
  have HC6 := Lib.hid (show Calls Try.prog 17 #[.agg A] w6 fun e w' => e = .returned (.agg (pktA (selP p))) ∧ Below w6.heap.size w6 w' from by rw [HA.out.1]; exact refClean_any p w6)
  refine wpAnyS_ready (rs := [12]) (by kernel_rfl) (by simp) ?_
  refine AllReadyS.cons rfl (fun K hK => ?_) AllReadyS.nil
  go_simp
  refine HC6.out.mono ?_
  rintro e w7 ⟨rfl, hb7⟩
  have HX7 := Lib.hid ((hb7.block _ (Array.getElem?_eq_some_iff.1 HX6.out).1).trans HX6.out)
  have HB7 := Lib.hid (bt HB6.out hb7)
  have HC7 := Lib.hid (same_any q (selP p) w7 (HQ.out.2.below hb7) ((selP_ok HK.out).below HB7.out) HQ.out.1)
  refine hK.out _ _ (fun _ => range_of_block HX7.out) ?_
  clear hK K hb7 HC6
  simp only [Act.put, List.setIfInBounds_toArray, List.set_cons_zero, List.set_cons_succ]
  refine wpAnyS_ready (rs := [13]) (by kernel_rfl) (by simp) ?_
  refine AllReadyS.cons rfl (fun K hK => ?_) AllReadyS.nil
  go_simp
  refine HC7.out.mono ?_
  rintro e w8 ⟨rfl, hb8⟩
  have HX8 := Lib.hid ((hb8.block _ (Array.getElem?_eq_some_iff.1 HX7.out).1).trans HX7.out)
  have HB8 := Lib.hid (bt HB7.out hb8)
  refine hK.out _ _ (fun _ => range_of_block HX8.out) ?_
  clear hK K hb8 HC7
  simp only [Act.put, List.setIfInBounds_toArray, List.set_cons_zero, List.set_cons_succ]
  refine wpAnyS_ready (rs := [14]) (by kernel_rfl) (by simp) ?_
  refine AllReadyS.cons rfl (fun K hK => ?_) AllReadyS.nil
  go_simp
  refine hK.out _ _ (fun _ => range_of_block HX8.out) ?_
  clear hK K
  simp only [Act.put, List.setIfInBounds_toArray, List.set_cons_zero, List.set_cons_succ]
  refine wpAnyS_ready (rs := [15]) (by kernel_rfl) (by simp) ?_
  refine AllReadyS.cons rfl (fun K hK => ?_) AllReadyS.nil
  go_simp
  refine hK.out _ _ (fun h => absurd h (by decide)) ?_
  clear hK K
  simp only [Act.put, List.setIfInBounds_toArray, List.set_cons_zero, List.set_cons_succ]
  refine wpAnyS_doneP (by kernel_rfl) ?_ _
  go_wp2_with fail
  go_ret
  exact ⟨rfl, HB8.out⟩
end Go.Proofs.Ytgpojbmloielmaa
