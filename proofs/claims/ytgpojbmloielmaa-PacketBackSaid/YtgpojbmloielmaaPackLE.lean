/-
  PacketBack: what was printed is parsed as its clean packet; cleaned twice it is as cleaned once.
  Conditions: the packet is read.
-/
import Derived.Test.YtgpojbmloielmaaPackLD
import Derived.Test.YtgpojbmloielmaaPackRC
namespace Go.Proofs.Ytgpojbmloielmaa
set_option linter.unusedVariables false
set_option linter.unusedSimpArgs false
open Go.RowKit
theorem wpList_load_row_want {P : Program} {ops : Array Oper} {rest : List Oper} {o : Oper} {a : Act} {w : World} {Q : Exit → Act → World → Prop} (hw : Region.wanted o (yielded ops a.tmps) = true) (ty : TypeId) (x : Operand) (ho : o.op = .load ty x)
    (g : Nat) (hx : a.eval x = .pointer (some ⟨g, 0, none⟩)) (t : TypeId) (cs : Array Value) (fr : Nat × Nat) (d : TypeDesc) (hg : w.heap[g]? = some (.cells cs t fr))
    (hu : P.underlying ty = some d) (hd : (match d with | .struct _ | .array _ _ => true | _ => false) = true) (hi : (P.info? ty).map (·.size) = some cs.size)
    (h : wpList P ops Q rest (a.put o.dst (.agg cs)) w) : wpList P ops Q (o :: rest) a w :=
  BigFrame.wpList_want hw fun _ hK => wp_load_row ty x ho g hx t cs fr d hg hu hd hi (hK _ _ h)
theorem pktS_err {p : Pkt} (h : pktE p ≠ 0) : pktS p = ⟨#[]⟩ := by
  unfold pktE at h
  unfold pktS
  split
  · rfl
  · rename_i hz
    rw [if_neg hz] at h
    split
    · rfl
    · rename_i x hx
      rw [hx] at h
      unfold printS
      rw [if_neg h]
theorem pkt_back {p : Pkt} {w : World} (hp : PktOk w p) (h : pktE p = 0) : pktPE (pktS p) = 0 ∧ coreP (pktPQ (pktS p)) = coreP (selP p) ∧ (pktS p).size ≤ 1000000 := by
  unfold pktE at h
  by_cases hz : printE p.kind p.frm p.dst ⟨#[]⟩ = 0
  · rw [if_neg (by simpa using hz)] at h
    have hk := printE_kind hz
    rcases hb : bodyL p with c | y
    · rw [hb] at h
      exact absurd h (bodyL_err hb)
    rw [hb] at h
    obtain ⟨h1, h2, h3, h4⟩ := (may_iff _ _ _ _).1 h
    have hS : pktS p = framed p.kind.toNat p.frm.toNat p.dst.toNat (strL y) := by
      unfold pktS
      rw [if_neg (by simpa using hz), hb]
      show printS p.kind p.frm p.dst (strL y) = _
      unfold printS
      rw [if_pos h]
    have e1 : ((p.kind.toNat : Nat) : Int) = p.kind := by omega
    have e2 : ((p.frm.toNat : Nat) : Int) = p.frm := by simp [procB] at h2; omega
    have e3 : ((p.dst.toNat : Nat) : Int) = p.dst := by simp [procB] at h3; omega
    obtain ⟨f1, f2, f3, f4, f5⟩ := parse_framed p.kind.toNat p.frm.toNat p.dst.toNat (strL y) (by rw [e1]; exact h1) (by rw [e2]; exact h2) (by rw [e3]; exact h3) h4
    rw [← hS] at f1 f2 f3 f4 f5
    obtain ⟨q, hq, hc⟩ := rdBody_put hp hk hb
    have hR : pktR (pktS p) = .ok (q, []) := by
      unfold pktR
      rw [if_neg (by simpa using f1)]
      unfold parseN parseB
      rw [if_pos f1, if_pos f1, if_pos f1, if_pos f1, f2, f3, f4, f5, e1, e2, e3]
      have : (strL y).data.toList = y := by simp [strL]
      rw [this]
      exact hq
    refine ⟨?_, ?_, ?_⟩
    · unfold pktPE; rw [hR]
    · unfold pktPQ; rw [hR]; exact hc
    · rw [hS, framed_size]; omega
  · rw [if_pos (by simpa using hz)] at h
    exact absurd h hz
set_option maxRecDepth 100000 in
set_option maxHeartbeats 16000000 in
theorem law_packetBack (p : Pkt) (w : World) (hp : PktRd w p) : Calls Try.prog 5 #[.agg (pktA p)] w fun e w' => e = .returned (.bool true) ∧ Below w.heap.size w w' := by
  obtain ⟨N, hN⟩ : ∃ N, N = w.heap.size := ⟨_, rfl⟩
  obtain ⟨W, hW⟩ : ∃ W, W = w.alloc (.cells (pktA p) 35) := ⟨_, rfl⟩
  obtain ⟨A, hA⟩ : ∃ A, A = pktA p := ⟨_, rfl⟩
  have hbA := ba (br w) (.cells (pktA p) 35)
  have hxA := heap_alloc_new w (.cells (pktA p) 35)
  rw [← hW] at hxA hbA
  rw [← hN, ← hA] at hxA
  have hma : pktA p = #[.int .i64 p.kind, .int .i64 p.frm, .int .i64 p.dst, .int .u64 (p.ce : Int), .int .i64 p.cr, .int .i64 p.m.frm, .int .u32 (p.m.seq : Int), .int .u64 (p.m.stamp : Int), .int .i64 p.m.service, .slice p.m.da p.m.ds.length p.m.dc, .string p.m.pay, .int .u64 (p.stamp : Int), .int .u32 (p.sent : Int), .slice p.ga p.got.length p.gc, .int .u64 (p.hor : Int), .int .i64 p.whom, .int .u32 (p.seq : Int), .int .u64 (p.mem : Int), .int .u64 (p.pe : Int), .int .i64 p.pr, .int .u64 (p.epoch : Int), .slice p.xa p.xs.length p.xc] := rfl
  rw [hma] at hW ⊢
  have HA := Lib.hid (And.intro hA (show A.size = 22 by rw [hA]; rfl))
  have HB := Lib.hid hbA
  have HX := Lib.hid hxA
  have HP := Lib.hid hp
  clear hxA hbA hp hA
  go_enter Try.func5, Try.ntmps5
  go_upto_region 1 with (fail)
  rw [← hW, ← hN]
  clear hma hW hN
  go_wp2_with fail
  refine (awake_any W).mono ?_
  rintro e w1 ⟨rfl, hb1⟩
  have HX1 := Lib.hid ((hb1.block _ (Array.getElem?_eq_some_iff.1 HX.out).1).trans HX.out)
  have HB1 := Lib.hid (bt HB.out hb1)
  have HF := Lib.hid (show Calls Try.prog 13 #[.agg A] w1 fun e w' => FewR p e ∧ Below w1.heap.size w1 w' from by rw [HA.out.1]; exact Few_any p w1 (PktRd.below HP.out HB1.out))
  clear hb1
  go_wp2_with (refine wpList_load_row rfl 35 (.tmp 1) rfl N rfl 35 A (0, 0) _ HX1.out Try.underlying35 rfl (by rw [HA.out.2]; kernel_rfl) ?_)
  refine HF.out.mono ?_
  rintro e w2 ⟨⟨b, rfl, hf⟩, hb2⟩
  have HX2 := Lib.hid ((hb2.block _ (Array.getElem?_eq_some_iff.1 HX1.out).1).trans HX1.out)
  have HB2 := Lib.hid (bt HB1.out hb2)
  have HFew := Lib.hid hf
  clear hb2 hf HF
  cases b
  · go_wp2_with fail
    go_ret
    exact ⟨rfl, HB2.out⟩
  have HK := Lib.hid (HP.out.ok (HFew.out rfl))
  have HC := Lib.hid (show Calls Try.prog 16 #[.agg A] w2 fun e w' => OwnEnd (selP p) w2 e w' from by rw [HA.out.1]; exact clean_any p w2 (HK.out.below HB2.out))
  go_wp2_with (refine wpList_load_row rfl 35 (.tmp 1) rfl N rfl 35 A (0, 0) _ HX2.out Try.underlying35 rfl (by rw [HA.out.2]; kernel_rfl) ?_)
  refine HC.out.mono ?_
  rintro e w3 ⟨⟨q, rfl, hcq, hoq⟩, hb3⟩
  have HX3 := Lib.hid ((hb3.block _ (Array.getElem?_eq_some_iff.1 HX2.out).1).trans HX2.out)
  have HB3 := Lib.hid (bt HB2.out hb3)
  have HQ := Lib.hid (And.intro hcq (OwnPk.ok hoq hcq (selP_ok (HK.out.below HB2.out))))
  obtain ⟨B, hB⟩ : ∃ B, B = pktA q := ⟨_, rfl⟩
  have HBq := Lib.hid (And.intro hB (And.intro (show B.size = 22 by rw [hB]; rfl) (show B.all (·.oneCell') = true by rw [hB]; exact oneCell_pktA q)))
  rw [← hB]
  obtain ⟨P, hP⟩ : ∃ P, P = w3.heap.size := ⟨_, rfl⟩
  have hz := heap_alloc_new w3 (.cells (pktA zeroP) 35)
  have hbz := ba (br w3) (.cells (pktA zeroP) 35)
  rw [show pktA zeroP = #[.int .i64 0, .int .i64 0, .int .i64 0, .int .u64 0, .int .i64 0, .int .i64 0, .int .u32 0, .int .u64 0, .int .i64 0, .slice none 0 0, .string ⟨#[]⟩, .int .u64 0, .int .u32 0, .slice none 0 0, .int .u64 0, .int .i64 0, .int .u32 0, .int .u64 0, .int .u64 0, .int .i64 0, .int .u64 0, .slice none 0 0] from rfl] at hz hbz
  rw [← hP] at hz
  obtain ⟨w4, hw4⟩ : ∃ w4, w4 = (w3.alloc (.cells #[.int .i64 0, .int .i64 0, .int .i64 0, .int .u64 0, .int .i64 0, .int .i64 0, .int .u32 0, .int .u64 0, .int .i64 0, .slice none 0 0, .string ⟨#[]⟩, .int .u64 0, .int .u32 0, .slice none 0 0, .int .u64 0, .int .i64 0, .int .u32 0, .int .u64 0, .int .u64 0, .int .i64 0, .int .u64 0, .slice none 0 0] 35)).setRow P B := ⟨_, rfl⟩
  have hk4 := kept_setRow (w3.alloc (.cells #[.int .i64 0, .int .i64 0, .int .i64 0, .int .u64 0, .int .i64 0, .int .i64 0, .int .u32 0, .int .u64 0, .int .i64 0, .slice none 0 0, .string ⟨#[]⟩, .int .u64 0, .int .u32 0, .slice none 0 0, .int .u64 0, .int .i64 0, .int .u32 0, .int .u64 0, .int .u64 0, .int .i64 0, .int .u64 0, .slice none 0 0] 35)) P B
  have hb34 : Below w3.heap.size w3 w4 := by rw [hw4]; exact hk4.out hbz hbz.size (fun k hk' e => by omega)
  have HZ := Lib.hid (And.intro hz hP)
  have HY4 := Lib.hid (show w4.heap[P]? = some (.cells B 35 (0, 0)) from by rw [hw4]; exact setRow_heap _ _ _ _ _ _ hz)
  have HX4 := Lib.hid ((hb34.block _ (Array.getElem?_eq_some_iff.1 HX3.out).1).trans HX3.out)
  have HB4 := Lib.hid (bt HB3.out hb34)
  have HQ4 := Lib.hid (And.intro HQ.out.1 (HQ.out.2.below hb34))
  clear hz hbz hk4 hP hb3 hcq hoq hB HC hb34
  go_upto_region 6 with (refine wpList_store_row rfl 35 (.tmp 3) (.tmp 16) rfl P B (by rw [HZ.out.2]; rfl) rfl 35 _ HZ.out.1 (by rw [HBq.out.2.1]; kernel_rfl) (by rw [HBq.out.2.1]; rfl) HBq.out.2.2 ?_)
  rw [← hw4, ← HZ.out.2]
  clear hw4
  have HC4 := Lib.hid (show Calls Try.prog 14 #[.agg A] w4 fun e w' => e = .returned (.tuple #[.string (pktS p), .int .i64 (pktE p)]) ∧ Below w4.heap.size w4 w' from by rw [HA.out.1]; exact pkPrint_any p w4 (HK.out.below HB4.out))
  obtain ⟨S, hS⟩ : ∃ S, S = pktS p := ⟨_, rfl⟩
  obtain ⟨E, hE⟩ : ∃ E, E = pktE p := ⟨_, rfl⟩
  rw [← hS, ← hE] at HC4
  have HSE := Lib.hid (And.intro hS hE)
  clear hS hE
  go_wp2_with (refine wpList_load_row rfl 35 (.tmp 1) rfl N rfl 35 A (0, 0) _ HX4.out Try.underlying35 rfl (by rw [HA.out.2]; kernel_rfl) ?_)
  refine HC4.out.mono ?_
  rintro e w5 ⟨rfl, hb5⟩
  have HX5 := Lib.hid ((hb5.block _ (Array.getElem?_eq_some_iff.1 HX4.out).1).trans HX4.out)
  have HY5 := Lib.hid ((hb5.block _ (Array.getElem?_eq_some_iff.1 HY4.out).1).trans HY4.out)
  have HB5 := Lib.hid (bt HB4.out hb5)
  have HQ5 := Lib.hid (And.intro HQ4.out.1 (HQ4.out.2.below hb5))
  have HC5 := Lib.hid (show Calls Try.prog 14 #[.agg B] w5 fun e w' => e = .returned (.tuple #[.string S, .int .i64 E]) ∧ Below w5.heap.size w5 w' from by
    have := pkPrint_any q w5 HQ5.out.2
    obtain ⟨g1, g2⟩ := pkt_core HQ5.out.1
    obtain ⟨g3, g4⟩ := pkt_sel p
    rw [HBq.out.1, HSE.out.1, HSE.out.2, ← g3, ← g4, ← g1, ← g2]
    exact this)
  clear hb5 HC4
  go_wp2_with (refine wpList_load_row rfl 35 (.tmp 3) rfl P rfl 35 B (0, 0) _ HY5.out Try.underlying35 rfl (by rw [HBq.out.2.1]; kernel_rfl) ?_)
  refine HC5.out.mono ?_
  rintro e w6 ⟨rfl, hb6⟩
  have HX6 := Lib.hid ((hb6.block _ (Array.getElem?_eq_some_iff.1 HX5.out).1).trans HX5.out)
  have HY6 := Lib.hid ((hb6.block _ (Array.getElem?_eq_some_iff.1 HY5.out).1).trans HY5.out)
  have HB6 := Lib.hid (bt HB5.out hb6)
  have HQ6 := Lib.hid (And.intro HQ5.out.1 (HQ5.out.2.below hb6))
  clear hb6 HC5
  have hs : (S.toList == S.toList) = true := by simp
  go_upto_region 8 with (fail)
  have hrg : w6.drew.rangeAt P 0 B.toList := range_of_block (show w6.drew.heap[P]? = _ from HY6.out)
  refine wp_region_maskP (fun w' => w'.rangeAt P 0 B.toList) 14 4 [true, true, true, true, true, true, true, true, true, true, false, true, false, false, false] #[true, true, true, true, true, true, true, true, true, true, false, true, false, false, false] (by kernel_rfl) (by kernel_rfl) (by kernel_rfl) (fun c a d v w h => by cases d <;> exact h) hrg ?_
  have HX7 := Lib.hid (show w6.drew.heap[N]? = _ from HX6.out)
  have HY7 := Lib.hid (show w6.drew.heap[P]? = _ from HY6.out)
  have HB7 := Lib.hid (bt HB6.out (br w6).drew)
  have HQ7 := Lib.hid (And.intro HQ6.out.1 (HQ6.out.2.below (br w6).drew))
  clear hrg
  generalize w6.drew = w7 at *
  refine wpMask_take _ (Or.inl ⟨by rfl, fun w' hS => by (try dsimp only at hS); go_simp; try with_reducible rfl⟩) ?_
  simp only [Act.put, List.setIfInBounds_toArray, List.set_cons_zero, List.set_cons_succ]
  refine wpMask_take _ (Or.inl ⟨by rfl, fun w' hS => by (try dsimp only at hS); go_simp; try with_reducible rfl⟩) ?_
  simp only [Act.put, List.setIfInBounds_toArray, List.set_cons_zero, List.set_cons_succ]
  refine wpMask_take _ (Or.inl ⟨by rfl, fun w' hS => by (try dsimp only at hS); go_simp; try with_reducible rfl⟩) ?_
  simp only [Act.put, List.setIfInBounds_toArray, List.set_cons_zero, List.set_cons_succ]
  refine wpMask_take _ (Or.inl ⟨by rfl, fun w' hS => by (try dsimp only at hS); go_simp; try with_reducible rfl⟩) ?_
  simp only [Act.put, List.setIfInBounds_toArray, List.set_cons_zero, List.set_cons_succ]
  refine wpMask_take _ (Or.inl ⟨by rfl, fun w' hS => by (try dsimp only at hS); go_simp; try with_reducible rfl⟩) ?_
  simp only [Act.put, List.setIfInBounds_toArray, List.set_cons_zero, List.set_cons_succ]
  refine wpMask_take _ (Or.inl ⟨by rfl, fun w' hS => by (try dsimp only at hS); go_simp; try with_reducible rfl⟩) ?_
  simp only [Act.put, List.setIfInBounds_toArray, List.set_cons_zero, List.set_cons_succ]
  refine wpMask_take _ (Or.inl ⟨by rfl, fun w' hS => by (try dsimp only at hS); go_simp; try with_reducible rfl⟩) ?_
  simp only [Act.put, List.setIfInBounds_toArray, List.set_cons_zero, List.set_cons_succ]
  refine wpMask_take _ (Or.inl ⟨by rfl, fun w' hS => by (try dsimp only at hS); go_simp; try with_reducible rfl⟩) ?_
  simp only [Act.put, List.setIfInBounds_toArray, List.set_cons_zero, List.set_cons_succ]
  refine wpMask_take _ (Or.inl ⟨by rfl, fun w' hS => by (try dsimp only at hS); go_simp; try with_reducible rfl⟩) ?_
  simp only [Act.put, List.setIfInBounds_toArray, List.set_cons_zero, List.set_cons_succ]
  refine wpMask_take _ (yieldsIf_load_mid (by rfl) 35 (.tmp 3) rfl P 0 rfl B.toList _ (fun w' hS => hS) Try.underlying35 rfl (by rw [Array.length_toList, HBq.out.2.1]; kernel_rfl)) ?_
  simp only [Act.put, List.setIfInBounds_toArray, List.set_cons_zero, List.set_cons_succ]
  refine wpMask_skip ?_
  refine wpMask_take _ (yieldsIf_load_mid (by rfl) 35 (.tmp 3) rfl P 0 rfl B.toList _ (fun w' hS => hS) Try.underlying35 rfl (by rw [Array.length_toList, HBq.out.2.1]; kernel_rfl)) ?_
  simp only [Act.put, List.setIfInBounds_toArray, List.set_cons_zero, List.set_cons_succ]
  refine wpMask_skip (wpMask_skip (wpMask_skip (wpMask_nil ?_)))
  have HC7 := Lib.hid (show Calls Try.prog 16 #[.agg B] w7 fun e w' => OwnEnd (selP q) w7 e w' from by rw [HBq.out.1]; exact clean_any q w7 HQ7.out.2)
  refine wpAnyS_ready (rs := [10]) (by kernel_rfl) (by simp) ?_
  refine AllReadyS.cons rfl (fun K hK => ?_) AllReadyS.nil
  go_simp
  refine HC7.out.mono ?_
  rintro e w8 ⟨⟨q2, rfl, hcq, hoq⟩, hb8⟩
  have HX8 := Lib.hid ((hb8.block _ (Array.getElem?_eq_some_iff.1 HX7.out).1).trans HX7.out)
  have HY8 := Lib.hid ((hb8.block _ (Array.getElem?_eq_some_iff.1 HY7.out).1).trans HY7.out)
  have HB8 := Lib.hid (bt HB7.out hb8)
  have HQ8 := Lib.hid (And.intro HQ7.out.1 (HQ7.out.2.below hb8))
  have hcc : coreP q2 = coreP q := by rw [hcq, selP_core HQ7.out.1, selP_sel, ← HQ7.out.1]
  have HC8 := Lib.hid (show Calls Try.prog 12 #[.agg (pktA q2), .agg B] w8 fun e w' => e = .returned (.bool true) ∧ Below w8.heap.size w8 w' from by rw [HBq.out.1]; exact same_any q2 q w8 (OwnPk.ok hoq hcq (selP_ok HQ7.out.2)) HQ8.out.2 hcc)
  refine hK.out _ _ (fun _ => range_of_block HY8.out) ?_
  clear hK K hcq hoq hb8 HC7 hcc
  simp only [Act.put, List.setIfInBounds_toArray, List.set_cons_zero, List.set_cons_succ]
  refine wpAnyS_ready (rs := [12]) (by kernel_rfl) (by simp) ?_
  refine AllReadyS.cons rfl (fun K hK => ?_) AllReadyS.nil
  go_simp
  refine HC8.out.mono ?_
  rintro e w9 ⟨rfl, hb9⟩
  have HX9 := Lib.hid ((hb9.block _ (Array.getElem?_eq_some_iff.1 HX8.out).1).trans HX8.out)
  have HY9 := Lib.hid ((hb9.block _ (Array.getElem?_eq_some_iff.1 HY8.out).1).trans HY8.out)
  have HB9 := Lib.hid (bt HB8.out hb9)
  have HQ9 := Lib.hid (And.intro HQ8.out.1 (HQ8.out.2.below hb9))
  refine hK.out _ _ (fun _ => range_of_block HY9.out) ?_
  clear hK K hb9 HC8
  simp only [Act.put, List.setIfInBounds_toArray, List.set_cons_zero, List.set_cons_succ]
  refine wpAnyS_ready (rs := [13]) (by kernel_rfl) (by simp) ?_
  refine AllReadyS.cons rfl (fun K hK => ?_) AllReadyS.nil
  go_simp
  refine hK.out _ _ (fun _ => range_of_block HY9.out) ?_
  clear hK K
  simp only [Act.put, List.setIfInBounds_toArray, List.set_cons_zero, List.set_cons_succ]
  refine wpAnyS_ready (rs := [14]) (by kernel_rfl) (by simp) ?_
  refine AllReadyS.cons rfl (fun K hK => ?_) AllReadyS.nil
  go_simp
  refine hK.out _ _ (fun h => absurd h (by decide)) ?_
  clear hK K
  simp only [Act.put, List.setIfInBounds_toArray, List.set_cons_zero, List.set_cons_succ]
  refine wpAnyS_doneP (by kernel_rfl) ?_ _
  by_cases hz : E = 0
  · subst hz
    have hback := pkt_back HK.out HSE.out.2.symm
    rw [← HSE.out.1] at hback
    have HC9 := Lib.hid (show Calls Try.prog 10 #[.string S] w9 fun e w' => ∃ q3, e = .returned (.tuple #[.agg (pktA q3), .int .i64 0]) ∧ coreP q3 = coreP q ∧ PktOk w' q3 ∧ Below w9.heap.size w9 w' from by
      refine (pkParse_any S w9 hback.2.2).mono ?_
      rintro e w' ⟨⟨q3, rfl, hc, ho⟩, hb⟩
      have hcs : coreP q3 = coreP (selP p) := hc.trans hback.2.1
      exact ⟨q3, by rw [hback.1], hcs.trans HQ9.out.1.symm, OwnPk.ok ho hcs (selP_ok HK.out), hb⟩)
    clear hback
    go_wp2_with fail
    refine HC9.out.mono ?_
    rintro e w10 ⟨q3, rfl, hc3, ho3, hb10⟩
    have HY10 := Lib.hid ((hb10.block _ (Array.getElem?_eq_some_iff.1 HY9.out).1).trans HY9.out)
    have HB10 := Lib.hid (bt HB9.out hb10)
    have HQ10 := Lib.hid (HQ9.out.2.below hb10)
    obtain ⟨D, hD⟩ : ∃ D, D = pktA q3 := ⟨_, rfl⟩
    have HD := Lib.hid (And.intro hD (And.intro (show D.size = 22 by rw [hD]; rfl) (show D.all (·.oneCell') = true by rw [hD]; exact oneCell_pktA q3)))
    rw [← hD]
    obtain ⟨G, hG⟩ : ∃ G, G = w10.heap.size := ⟨_, rfl⟩
    have hz := heap_alloc_new w10 (.cells (pktA zeroP) 35)
    have hbz := ba (br w10) (.cells (pktA zeroP) 35)
    rw [show pktA zeroP = #[.int .i64 0, .int .i64 0, .int .i64 0, .int .u64 0, .int .i64 0, .int .i64 0, .int .u32 0, .int .u64 0, .int .i64 0, .slice none 0 0, .string ⟨#[]⟩, .int .u64 0, .int .u32 0, .slice none 0 0, .int .u64 0, .int .i64 0, .int .u32 0, .int .u64 0, .int .u64 0, .int .i64 0, .int .u64 0, .slice none 0 0] from rfl] at hz hbz
    rw [← hG] at hz
    obtain ⟨w11, hw11⟩ : ∃ w11, w11 = (w10.alloc (.cells #[.int .i64 0, .int .i64 0, .int .i64 0, .int .u64 0, .int .i64 0, .int .i64 0, .int .u32 0, .int .u64 0, .int .i64 0, .slice none 0 0, .string ⟨#[]⟩, .int .u64 0, .int .u32 0, .slice none 0 0, .int .u64 0, .int .i64 0, .int .u32 0, .int .u64 0, .int .u64 0, .int .i64 0, .int .u64 0, .slice none 0 0] 35)).setRow G D := ⟨_, rfl⟩
    have hk11 := kept_setRow (w10.alloc (.cells #[.int .i64 0, .int .i64 0, .int .i64 0, .int .u64 0, .int .i64 0, .int .i64 0, .int .u32 0, .int .u64 0, .int .i64 0, .slice none 0 0, .string ⟨#[]⟩, .int .u64 0, .int .u32 0, .slice none 0 0, .int .u64 0, .int .i64 0, .int .u32 0, .int .u64 0, .int .u64 0, .int .i64 0, .int .u64 0, .slice none 0 0] 35)) G D
    have hb11 : Below w10.heap.size w10 w11 := by rw [hw11]; exact hk11.out hbz hbz.size (fun k hk' e => by omega)
    have HZ2 := Lib.hid (And.intro hz hG)
    have HV := Lib.hid (show w11.heap[G]? = some (.cells D 35 (0, 0)) from by rw [hw11]; exact setRow_heap _ _ _ _ _ _ hz)
    have HY11 := Lib.hid ((hb11.block _ (Array.getElem?_eq_some_iff.1 HY10.out).1).trans HY10.out)
    have HB11 := Lib.hid (bt HB10.out hb11)
    have HC11 := Lib.hid (show Calls Try.prog 12 #[.agg D, .agg B] w11 fun e w' => e = .returned (.bool true) ∧ Below w11.heap.size w11 w' from by rw [HD.out.1, HBq.out.1]; exact same_any q3 q w11 (ho3.below hb11) (HQ10.out.below hb11) hc3)
    clear hz hbz hk11 hG hD hc3 ho3 hb10 hb11 HC9
    go_upto_region 13 with (refine wpList_store_row rfl 35 (.tmp 8) (.tmp 49) rfl G D (by rw [HZ2.out.2]; rfl) rfl 35 _ HZ2.out.1 (by rw [HD.out.2.1]; kernel_rfl) (by rw [HD.out.2.1]; rfl) HD.out.2.2 ?_)
    rw [← hw11, ← HZ2.out.2]
    clear hw11
    go_wp2_with (first
      | (refine wpList_load_row_want (by rfl) 35 (.tmp 8) rfl G rfl 35 D (0, 0) _ HV.out Try.underlying35 rfl (by rw [HD.out.2.1]; kernel_rfl) ?_)
      | (refine wpList_load_row_want (by rfl) 35 (.tmp 3) rfl P rfl 35 B (0, 0) _ HY11.out Try.underlying35 rfl (by rw [HBq.out.2.1]; kernel_rfl) ?_))
    refine HC11.out.mono ?_
    rintro e w12 ⟨rfl, hb12⟩
    have HE := Lib.hid (bt HB11.out hb12)
    clear hb12
    go_wp2_with fail
    go_ret
    exact ⟨rfl, HE.out⟩
  · have hz2 : (E != 0) = true := by simpa using hz
    have hSe : S = ⟨#[]⟩ := by rw [HSE.out.1]; exact pktS_err (by rw [← HSE.out.2]; exact hz)
    subst hSe
    go_wp2_with fail
    go_ret
    exact ⟨rfl, HB9.out⟩
section
open Go.ChangeShapes Go.WideShapes Go.Deep
variable {H : Type} {enc : TypeId × Value → H} {w : World} {base : Nat} {spare : Nat → Bool} {held : Bool}
set_option maxRecDepth 100000 in
theorem packetBack_row {r : Reach} {b0 : Nat} {d : DataW H} {pl : List MemPlace} (v : Value) (w : World) (hv : Value.okWide Try.prog w r b0 35 v) (h : DataW.Trod enc Try.prog w base spare held 35 v d pl) (hz : ∀ n ∈ d.weights Try.prog 35, n ≤ reachBytes) :
    Calls Try.prog 5 #[v] w fun e w' => e = .returned (.bool true) ∧ Below w.heap.size w w' := by
  obtain ⟨p, rfl, hp⟩ := pkt_arg hv h hz
  exact law_packetBack p w hp
end
end Go.Proofs.Ytgpojbmloielmaa
