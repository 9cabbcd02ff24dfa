/-
  What the reference's maker makes of a message, an exchange, a field.
  Conditions: those that each theorem names.
-/
import Derived.Test.YtgpojbmloielmaaPackI
namespace Go.Proofs.Ytgpojbmloielmaa
set_option linter.unusedVariables false
set_option linter.unusedSimpArgs false
open Go.RowKit
set_option maxHeartbeats 8000000 in
theorem mMsgN_any {w0 w : World} {s : ByteArray} {e : Int} (h : MkAt w0.heap.size w0 w s e) (m : Msg) (hm : MsgW w0 m) (hneg : m.service < 0) (hl : s.size ≤ 98000000) :
    Calls Try.prog 68 #[.pointer (some ⟨w0.heap.size, 0, none⟩), .agg (msgA m)] w fun en w' => MkEnd w0.heap.size w0 w s e (msgL m) (60000 + m.pay.size) en w' := by
  obtain ⟨N, hN⟩ : ∃ N, N = w.heap.size := ⟨_, rfl⟩
  obtain ⟨W, hW⟩ : ∃ W, W = w.alloc (.cells (msgA m) 32) := ⟨_, rfl⟩
  have hbA := ba (br w) (.cells (msgA m) 32)
  have hxA := heap_alloc_new w (.cells (msgA m) 32)
  rw [← hW] at hxA hbA
  rw [← hN] at hxA
  have h1 := h.below hbA
  have hne : N ≠ w0.heap.size := by have := h.lt; omega
  have HB := Lib.hid (And.intro hne (And.intro (Kept.of_below (S := fun b => b = w0.heap.size) hbA) hxA))
  have HL := Lib.hid hl
  have k1 : Kept (fun b => b = w0.heap.size) W W := .refl _ _
  have z1 : s.size ≤ s.size + 0 := Nat.le_refl _
  have r1 := MkR.refl s e
  obtain ⟨bx1, hb1⟩ : ∃ b : Bool, b = (decide (m.service < 0) || decide (2 < m.service)) := ⟨_, rfl⟩
  obtain ⟨bx3, hb3⟩ : ∃ b : Bool, b = decide (1024 < m.pay.size) := ⟨_, rfl⟩
  have d3 : decide ((1024 : Int) < (m.pay.size : Int)) = bx3 := by rw [hb3, decide_eq_decide]; omega
  obtain ⟨x, hx1, hx2, hx3⟩ := wrap_nat m.service
  have HEQ := Lib.hid (show cat (badL 1 bx1) (cat (badL 3 bx3) (cat (.ok (putL m.seq 4)) (cat (.ok (putL m.stamp 8)) (cat (.ok (putL x 1)) (cat (vecL m.ds) (cat (.ok (putL m.pay.size 2)) (.ok m.pay.data.toList))))))) = msgL m from by
    unfold msgL badL
    by_cases h : m.service < 0 ∨ 2 < m.service
    · rw [if_pos h, if_pos (by rw [hb1]; simpa using h)]; rfl
    · rw [if_neg h, if_neg (by rw [hb1]; simpa using h), nil_cat]
      by_cases h3 : 1024 < m.pay.size
      · rw [if_pos h3, if_pos (by rw [hb3]; simpa using h3)]; rfl
      · rw [if_neg h3, if_neg (by rw [hb3]; simpa using h3), nil_cat, hx3 ⟨by omega, by omega⟩])
  have d1 : decide (m.service < 0) = true := by simpa using hneg
  have hb1t : bx1 = true := by rw [hb1, d1]; rfl
  subst hb1t
  have hp5 : m.pay.size ≤ 140737488351232 := hm.1
  have hw1 : IntKind.u64.wrap (m.seq : Int) = (m.seq : Int) := by rw [IntKind.wrap_u64]; have := hm.2.1; omega
  have hw3 : IntKind.u64.wrap (m.pay.size : Int) = (m.pay.size : Int) := by rw [IntKind.wrap_u64]; omega
  have HM := Lib.hid (And.intro hm hx2)
  clear hm hx2 hx3 hb1 hb3
  clear hne hbA h hl hxA
  have hma : msgA m = #[.int .i64 m.frm, .int .u32 (m.seq : Int), .int .u64 (m.stamp : Int), .int .i64 m.service, .slice m.da m.ds.length m.dc, .string m.pay] := rfl
  rw [hma] at hW ⊢
  go_enter Try.func68, Try.ntmps68
  go_upto_region 1 with (fail)
  rw [← hW, ← hN]
  clear hma hW hN
  have b1 := k1.keep HB.out.2.2 HB.out.1
  have c3 : W.cell? ⟨N, 3, none⟩ = some (.int .i64 m.service) := cell_of_row _ _ 3 _ _ _ b1
  have H1 := Lib.hid (mBad_any h1 1 (by decide) true)
  have HK1 := Lib.hid (And.intro k1 (And.intro z1 r1))
  clear h1 k1 r1 b1
  go_wp2_with fail
  refine H1.out.mono ?_
  rintro en w2 ⟨rfl, s2, e2, h2, k2, z2, r2⟩
  replace k2 := HK1.out.1.trans k2
  replace z2 : s2.size ≤ s.size + (0 + 0) := by have := HK1.out.2.1; omega
  replace r2 := HK1.out.2.2.seq r2
  clear c3
  clear H1 HK1 z1
  have b2 := k2.keep HB.out.2.2 HB.out.1
  have c5 : w2.cell? ⟨N, 5, none⟩ = some (.string m.pay) := cell_of_row _ _ 5 _ _ _ b2
  have H2 := Lib.hid (mBad_any h2 3 (by decide) bx3)
  have HK2 := Lib.hid (And.intro k2 (And.intro z2 r2))
  clear h2 k2 r2 b2
  go_wp2_with fail
  refine H2.out.mono ?_
  rintro en w3 ⟨rfl, s3, e3, h3, k3, z3, r3⟩
  replace k3 := HK2.out.1.trans k3
  replace z3 : s3.size ≤ s.size + (0 + 0 + 0) := by have := HK2.out.2.1; omega
  replace r3 := HK2.out.2.2.seq r3
  clear c5
  clear H2 HK2 z2
  have b3 := k3.keep HB.out.2.2 HB.out.1
  have c1 : w3.cell? ⟨N, 1, none⟩ = some (.int .u32 (m.seq : Int)) := cell_of_row _ _ 1 _ _ _ b3
  have H3 := Lib.hid (mNum_any h3 m.seq 4 (by have := HL.out; omega) (by have := HM.out.1.2.1; omega) (by omega))
  have HK3 := Lib.hid (And.intro k3 (And.intro z3 r3))
  clear h3 k3 r3 b3
  go_wp2_with fail
  refine H3.out.mono ?_
  rintro en w4 ⟨rfl, s4, e4, h4, k4, z4, r4⟩
  replace k4 := HK3.out.1.trans k4
  replace z4 : s4.size ≤ s.size + (0 + 0 + 0 + 4) := by have := HK3.out.2.1; omega
  replace r4 := HK3.out.2.2.seq r4
  clear c1
  clear H3 HK3 z3
  have b4 := k4.keep HB.out.2.2 HB.out.1
  have c2 : w4.cell? ⟨N, 2, none⟩ = some (.int .u64 (m.stamp : Int)) := cell_of_row _ _ 2 _ _ _ b4
  have H4 := Lib.hid (mNum_any h4 m.stamp 8 (by have := HL.out; omega) HM.out.1.2.2.1 (by omega))
  have HK4 := Lib.hid (And.intro k4 (And.intro z4 r4))
  clear h4 k4 r4 b4
  go_wp2_with fail
  refine H4.out.mono ?_
  rintro en w5 ⟨rfl, s5, e5, h5, k5, z5, r5⟩
  replace k5 := HK4.out.1.trans k5
  replace z5 : s5.size ≤ s.size + (0 + 0 + 0 + 4 + 8) := by have := HK4.out.2.1; omega
  replace r5 := HK4.out.2.2.seq r5
  clear c2
  clear H4 HK4 z4
  have b5 := k5.keep HB.out.2.2 HB.out.1
  have c3 : w5.cell? ⟨N, 3, none⟩ = some (.int .i64 m.service) := cell_of_row _ _ 3 _ _ _ b5
  have H5 := Lib.hid (mNum_any h5 x 1 (by have := HL.out; omega) HM.out.2 (by omega))
  have HK5 := Lib.hid (And.intro k5 (And.intro z5 r5))
  clear h5 k5 r5 b5
  go_wp2_with fail
  refine H5.out.mono ?_
  rintro en w6 ⟨rfl, s6, e6, h6, k6, z6, r6⟩
  replace k6 := HK5.out.1.trans k6
  replace z6 : s6.size ≤ s.size + (0 + 0 + 0 + 4 + 8 + 1) := by have := HK5.out.2.1; omega
  replace r6 := HK5.out.2.2.seq r6
  clear c3
  clear H5 HK5 z5
  have b6 := k6.keep HB.out.2.2 HB.out.1
  have c4 : w6.cell? ⟨N, 4, none⟩ = some (.slice m.da m.ds.length m.dc) := cell_of_row _ _ 4 _ _ _ b6
  have H6 := Lib.hid (mVec_any h6 m.da m.dc m.ds HM.out.1.2.2.2 (by have := HL.out; omega))
  have HK6 := Lib.hid (And.intro k6 (And.intro z6 r6))
  clear h6 k6 r6 b6
  go_wp2_with fail
  refine H6.out.mono ?_
  rintro en w7 ⟨rfl, s7, e7, h7, k7, z7, r7⟩
  replace k7 := HK6.out.1.trans k7
  replace z7 : s7.size ≤ s.size + (0 + 0 + 0 + 4 + 8 + 1 + 257) := by have := HK6.out.2.1; omega
  replace r7 := HK6.out.2.2.seq r7
  clear c4
  clear H6 HK6 z6
  have b7 := k7.keep HB.out.2.2 HB.out.1
  have c5 : w7.cell? ⟨N, 5, none⟩ = some (.string m.pay) := cell_of_row _ _ 5 _ _ _ b7
  have H7 := Lib.hid (mNum_any h7 m.pay.size 2 (by have := HL.out; omega) (by omega) (by omega))
  have HK7 := Lib.hid (And.intro k7 (And.intro z7 r7))
  clear h7 k7 r7 b7
  go_wp2_with fail
  refine H7.out.mono ?_
  rintro en w8 ⟨rfl, s8, e8, h8, k8, z8, r8⟩
  replace k8 := HK7.out.1.trans k8
  replace z8 : s8.size ≤ s.size + (0 + 0 + 0 + 4 + 8 + 1 + 257 + 2) := by have := HK7.out.2.1; omega
  replace r8 := HK7.out.2.2.seq r8
  clear c5
  clear H7 HK7 z7
  have b8 := k8.keep HB.out.2.2 HB.out.1
  have c5 : w8.cell? ⟨N, 5, none⟩ = some (.string m.pay) := cell_of_row _ _ 5 _ _ _ b8
  have c0 : w8.cell? ⟨w0.heap.size, 0, none⟩ = some (.string s8) := cell_of_row _ _ 0 _ _ _ h8.1
  have f0 : w8.frozen? ⟨w0.heap.size, 0, none⟩ = false := frozen_of_row _ _ _ _ _ h8.1
  have hs9 : s8 ++ m.pay = s8 ++ strL m.pay.data.toList := by unfold strL; congr 1
  have HE := Lib.hid (show ∀ q, MkEnd w0.heap.size w0 w s e (msgL m) (60000 + m.pay.size) (.returned (.tuple #[])) ((w8.drewN q).setCell ⟨w0.heap.size, 0, none⟩ (.string (s8 ++ m.pay))) from fun q => by
    have hbq : Below w8.heap.size w8 (w8.drewN q) := bn (br w8) q
    have h9 := h8.below hbq
    have hk : Kept (fun b => b = w0.heap.size) (w8.drewN q) ((w8.drewN q).setCell ⟨w0.heap.size, 0, none⟩ (.string (s8 ++ m.pay))) := (show Kept (fun b => b = w0.heap.size) (w8.drewN q) (w8.drewN q) from .refl _ _).setCell (p := ⟨w0.heap.size, 0, none⟩) rfl _
    refine ⟨rfl, s8 ++ m.pay, e8, ⟨setCell_block h9.1 0 _, hk.out h9.2.1 (Nat.le_of_lt h9.lt) (fun k hk' e => by omega), h9.2.2⟩, HB.out.2.1.trans (k8.trans ((Kept.of_below hbq).trans hk)), by rw [ByteArray.size_append]; omega, ?_⟩
    have hr9 : MkR s8 e8 (.ok m.pay.data.toList) (s8 ++ m.pay) e8 := ⟨fun _ => rfl, fun he => ⟨fun y hy => by injection hy with hy; rw [← hy]; exact ⟨hs9, he⟩, fun c hc => by cases hc⟩⟩
    have h10 := r8.seq hr9
    simp only [cat_assoc, nil_cat] at h10
    rw [HEQ.out] at h10
    exact h10)
  have hz8 : s8.size ≤ 99000000 := by have := HL.out; omega
  clear h8 k8 r8 z8 b8 hs9
  go_upto_region 8 with (fail)
  refine wp_region_drew_tail 8 (by kernel_rfl) (by kernel_rfl) ?_
  simp only [List.take_succ_cons, List.take_zero, List.drop_succ_cons, List.drop_zero]
  repeat (go_big_quiet_step ((fail)))
  refine wpQuiet_nil ?_
  intro w9 hw9
  obtain ⟨q, rfl⟩ := hw9
  go_wp2_with fail
  go_end0
  exact HE.out q
set_option maxHeartbeats 8000000 in
theorem mMsgP_any {w0 w : World} {s : ByteArray} {e : Int} (h : MkAt w0.heap.size w0 w s e) (m : Msg) (hm : MsgW w0 m) (hneg : ¬ m.service < 0) (hl : s.size ≤ 98000000) :
    Calls Try.prog 68 #[.pointer (some ⟨w0.heap.size, 0, none⟩), .agg (msgA m)] w fun en w' => MkEnd w0.heap.size w0 w s e (msgL m) (60000 + m.pay.size) en w' := by
  obtain ⟨N, hN⟩ : ∃ N, N = w.heap.size := ⟨_, rfl⟩
  obtain ⟨W, hW⟩ : ∃ W, W = w.alloc (.cells (msgA m) 32) := ⟨_, rfl⟩
  have hbA := ba (br w) (.cells (msgA m) 32)
  have hxA := heap_alloc_new w (.cells (msgA m) 32)
  rw [← hW] at hxA hbA
  rw [← hN] at hxA
  have h1 := h.below hbA
  have hne : N ≠ w0.heap.size := by have := h.lt; omega
  have HB := Lib.hid (And.intro hne (And.intro (Kept.of_below (S := fun b => b = w0.heap.size) hbA) hxA))
  have HL := Lib.hid hl
  have k1 : Kept (fun b => b = w0.heap.size) W W := .refl _ _
  have z1 : s.size ≤ s.size + 0 := Nat.le_refl _
  have r1 := MkR.refl s e
  obtain ⟨bx1, hb1⟩ : ∃ b : Bool, b = (decide (m.service < 0) || decide (2 < m.service)) := ⟨_, rfl⟩
  obtain ⟨bx3, hb3⟩ : ∃ b : Bool, b = decide (1024 < m.pay.size) := ⟨_, rfl⟩
  have d3 : decide ((1024 : Int) < (m.pay.size : Int)) = bx3 := by rw [hb3, decide_eq_decide]; omega
  obtain ⟨x, hx1, hx2, hx3⟩ := wrap_nat m.service
  have HEQ := Lib.hid (show cat (badL 1 bx1) (cat (badL 3 bx3) (cat (.ok (putL m.seq 4)) (cat (.ok (putL m.stamp 8)) (cat (.ok (putL x 1)) (cat (vecL m.ds) (cat (.ok (putL m.pay.size 2)) (.ok m.pay.data.toList))))))) = msgL m from by
    unfold msgL badL
    by_cases h : m.service < 0 ∨ 2 < m.service
    · rw [if_pos h, if_pos (by rw [hb1]; simpa using h)]; rfl
    · rw [if_neg h, if_neg (by rw [hb1]; simpa using h), nil_cat]
      by_cases h3 : 1024 < m.pay.size
      · rw [if_pos h3, if_pos (by rw [hb3]; simpa using h3)]; rfl
      · rw [if_neg h3, if_neg (by rw [hb3]; simpa using h3), nil_cat, hx3 ⟨by omega, by omega⟩])
  have d1 : decide (m.service < 0) = false := by simpa using hneg
  have d2 : decide (2 < m.service) = bx1 := by rw [hb1, d1]; rfl
  have hp5 : m.pay.size ≤ 140737488351232 := hm.1
  have hw1 : IntKind.u64.wrap (m.seq : Int) = (m.seq : Int) := by rw [IntKind.wrap_u64]; have := hm.2.1; omega
  have hw3 : IntKind.u64.wrap (m.pay.size : Int) = (m.pay.size : Int) := by rw [IntKind.wrap_u64]; omega
  have HM := Lib.hid (And.intro hm hx2)
  clear hm hx2 hx3 hb1 hb3
  clear hne hbA h hl hxA
  have hma : msgA m = #[.int .i64 m.frm, .int .u32 (m.seq : Int), .int .u64 (m.stamp : Int), .int .i64 m.service, .slice m.da m.ds.length m.dc, .string m.pay] := rfl
  rw [hma] at hW ⊢
  go_enter Try.func68, Try.ntmps68
  go_upto_region 1 with (fail)
  rw [← hW, ← hN]
  clear hma hW hN
  have b1 := k1.keep HB.out.2.2 HB.out.1
  have c3 : W.cell? ⟨N, 3, none⟩ = some (.int .i64 m.service) := cell_of_row _ _ 3 _ _ _ b1
  have H1 := Lib.hid (mBad_any h1 1 (by decide) bx1)
  have HK1 := Lib.hid (And.intro k1 (And.intro z1 r1))
  clear h1 k1 r1 b1
  go_wp2_with fail
  refine H1.out.mono ?_
  rintro en w2 ⟨rfl, s2, e2, h2, k2, z2, r2⟩
  replace k2 := HK1.out.1.trans k2
  replace z2 : s2.size ≤ s.size + (0 + 0) := by have := HK1.out.2.1; omega
  replace r2 := HK1.out.2.2.seq r2
  clear c3
  clear H1 HK1 z1
  have b2 := k2.keep HB.out.2.2 HB.out.1
  have c5 : w2.cell? ⟨N, 5, none⟩ = some (.string m.pay) := cell_of_row _ _ 5 _ _ _ b2
  have H2 := Lib.hid (mBad_any h2 3 (by decide) bx3)
  have HK2 := Lib.hid (And.intro k2 (And.intro z2 r2))
  clear h2 k2 r2 b2
  go_wp2_with fail
  refine H2.out.mono ?_
  rintro en w3 ⟨rfl, s3, e3, h3, k3, z3, r3⟩
  replace k3 := HK2.out.1.trans k3
  replace z3 : s3.size ≤ s.size + (0 + 0 + 0) := by have := HK2.out.2.1; omega
  replace r3 := HK2.out.2.2.seq r3
  clear c5
  clear H2 HK2 z2
  have b3 := k3.keep HB.out.2.2 HB.out.1
  have c1 : w3.cell? ⟨N, 1, none⟩ = some (.int .u32 (m.seq : Int)) := cell_of_row _ _ 1 _ _ _ b3
  have H3 := Lib.hid (mNum_any h3 m.seq 4 (by have := HL.out; omega) (by have := HM.out.1.2.1; omega) (by omega))
  have HK3 := Lib.hid (And.intro k3 (And.intro z3 r3))
  clear h3 k3 r3 b3
  go_wp2_with fail
  refine H3.out.mono ?_
  rintro en w4 ⟨rfl, s4, e4, h4, k4, z4, r4⟩
  replace k4 := HK3.out.1.trans k4
  replace z4 : s4.size ≤ s.size + (0 + 0 + 0 + 4) := by have := HK3.out.2.1; omega
  replace r4 := HK3.out.2.2.seq r4
  clear c1
  clear H3 HK3 z3
  have b4 := k4.keep HB.out.2.2 HB.out.1
  have c2 : w4.cell? ⟨N, 2, none⟩ = some (.int .u64 (m.stamp : Int)) := cell_of_row _ _ 2 _ _ _ b4
  have H4 := Lib.hid (mNum_any h4 m.stamp 8 (by have := HL.out; omega) HM.out.1.2.2.1 (by omega))
  have HK4 := Lib.hid (And.intro k4 (And.intro z4 r4))
  clear h4 k4 r4 b4
  go_wp2_with fail
  refine H4.out.mono ?_
  rintro en w5 ⟨rfl, s5, e5, h5, k5, z5, r5⟩
  replace k5 := HK4.out.1.trans k5
  replace z5 : s5.size ≤ s.size + (0 + 0 + 0 + 4 + 8) := by have := HK4.out.2.1; omega
  replace r5 := HK4.out.2.2.seq r5
  clear c2
  clear H4 HK4 z4
  have b5 := k5.keep HB.out.2.2 HB.out.1
  have c3 : w5.cell? ⟨N, 3, none⟩ = some (.int .i64 m.service) := cell_of_row _ _ 3 _ _ _ b5
  have H5 := Lib.hid (mNum_any h5 x 1 (by have := HL.out; omega) HM.out.2 (by omega))
  have HK5 := Lib.hid (And.intro k5 (And.intro z5 r5))
  clear h5 k5 r5 b5
  go_wp2_with fail
  refine H5.out.mono ?_
  rintro en w6 ⟨rfl, s6, e6, h6, k6, z6, r6⟩
  replace k6 := HK5.out.1.trans k6
  replace z6 : s6.size ≤ s.size + (0 + 0 + 0 + 4 + 8 + 1) := by have := HK5.out.2.1; omega
  replace r6 := HK5.out.2.2.seq r6
  clear c3
  clear H5 HK5 z5
  have b6 := k6.keep HB.out.2.2 HB.out.1
  have c4 : w6.cell? ⟨N, 4, none⟩ = some (.slice m.da m.ds.length m.dc) := cell_of_row _ _ 4 _ _ _ b6
  have H6 := Lib.hid (mVec_any h6 m.da m.dc m.ds HM.out.1.2.2.2 (by have := HL.out; omega))
  have HK6 := Lib.hid (And.intro k6 (And.intro z6 r6))
  clear h6 k6 r6 b6
  go_wp2_with fail
  refine H6.out.mono ?_
  rintro en w7 ⟨rfl, s7, e7, h7, k7, z7, r7⟩
  replace k7 := HK6.out.1.trans k7
  replace z7 : s7.size ≤ s.size + (0 + 0 + 0 + 4 + 8 + 1 + 257) := by have := HK6.out.2.1; omega
  replace r7 := HK6.out.2.2.seq r7
  clear c4
  clear H6 HK6 z6
  have b7 := k7.keep HB.out.2.2 HB.out.1
  have c5 : w7.cell? ⟨N, 5, none⟩ = some (.string m.pay) := cell_of_row _ _ 5 _ _ _ b7
  have H7 := Lib.hid (mNum_any h7 m.pay.size 2 (by have := HL.out; omega) (by omega) (by omega))
  have HK7 := Lib.hid (And.intro k7 (And.intro z7 r7))
  clear h7 k7 r7 b7
  go_wp2_with fail
  refine H7.out.mono ?_
  rintro en w8 ⟨rfl, s8, e8, h8, k8, z8, r8⟩
  replace k8 := HK7.out.1.trans k8
  replace z8 : s8.size ≤ s.size + (0 + 0 + 0 + 4 + 8 + 1 + 257 + 2) := by have := HK7.out.2.1; omega
  replace r8 := HK7.out.2.2.seq r8
  clear c5
  clear H7 HK7 z7
  have b8 := k8.keep HB.out.2.2 HB.out.1
  have c5 : w8.cell? ⟨N, 5, none⟩ = some (.string m.pay) := cell_of_row _ _ 5 _ _ _ b8
  have c0 : w8.cell? ⟨w0.heap.size, 0, none⟩ = some (.string s8) := cell_of_row _ _ 0 _ _ _ h8.1
  have f0 : w8.frozen? ⟨w0.heap.size, 0, none⟩ = false := frozen_of_row _ _ _ _ _ h8.1
  have hs9 : s8 ++ m.pay = s8 ++ strL m.pay.data.toList := by unfold strL; congr 1
  have HE := Lib.hid (show ∀ q, MkEnd w0.heap.size w0 w s e (msgL m) (60000 + m.pay.size) (.returned (.tuple #[])) ((w8.drewN q).setCell ⟨w0.heap.size, 0, none⟩ (.string (s8 ++ m.pay))) from fun q => by
    have hbq : Below w8.heap.size w8 (w8.drewN q) := bn (br w8) q
    have h9 := h8.below hbq
    have hk : Kept (fun b => b = w0.heap.size) (w8.drewN q) ((w8.drewN q).setCell ⟨w0.heap.size, 0, none⟩ (.string (s8 ++ m.pay))) := (show Kept (fun b => b = w0.heap.size) (w8.drewN q) (w8.drewN q) from .refl _ _).setCell (p := ⟨w0.heap.size, 0, none⟩) rfl _
    refine ⟨rfl, s8 ++ m.pay, e8, ⟨setCell_block h9.1 0 _, hk.out h9.2.1 (Nat.le_of_lt h9.lt) (fun k hk' e => by omega), h9.2.2⟩, HB.out.2.1.trans (k8.trans ((Kept.of_below hbq).trans hk)), by rw [ByteArray.size_append]; omega, ?_⟩
    have hr9 : MkR s8 e8 (.ok m.pay.data.toList) (s8 ++ m.pay) e8 := ⟨fun _ => rfl, fun he => ⟨fun y hy => by injection hy with hy; rw [← hy]; exact ⟨hs9, he⟩, fun c hc => by cases hc⟩⟩
    have h10 := r8.seq hr9
    simp only [cat_assoc, nil_cat] at h10
    rw [HEQ.out] at h10
    exact h10)
  have hz8 : s8.size ≤ 99000000 := by have := HL.out; omega
  clear h8 k8 r8 z8 b8 hs9
  go_upto_region 8 with (fail)
  refine wp_region_drew_tail 8 (by kernel_rfl) (by kernel_rfl) ?_
  simp only [List.take_succ_cons, List.take_zero, List.drop_succ_cons, List.drop_zero]
  repeat (go_big_quiet_step ((fail)))
  refine wpQuiet_nil ?_
  intro w9 hw9
  obtain ⟨q, rfl⟩ := hw9
  go_wp2_with fail
  go_end0
  exact HE.out q
theorem mMsg_any {w0 w : World} {s : ByteArray} {e : Int} (h : MkAt w0.heap.size w0 w s e) (m : Msg) (hm : MsgW w0 m) (hl : s.size ≤ 98000000) :
    Calls Try.prog 68 #[.pointer (some ⟨w0.heap.size, 0, none⟩), .agg (msgA m)] w fun en w' => MkEnd w0.heap.size w0 w s e (msgL m) (60000 + m.pay.size) en w' := by
  by_cases hneg : m.service < 0
  · exact mMsgN_any h m hm hneg hl
  · exact mMsgP_any h m hm hneg hl
set_option maxHeartbeats 8000000 in
theorem mEx_any {w0 w : World} {s : ByteArray} {e : Int} (h : MkAt w0.heap.size w0 w s e) (x : Exch) (hx : ExW w0 x) (hl : s.size ≤ 98000000) :
    Calls Try.prog 73 #[.pointer (some ⟨w0.heap.size, 0, none⟩), .agg (exA x)] w fun en w' => MkEnd w0.heap.size w0 w s e (exL x) (276) en w' := by
  obtain ⟨N, hN⟩ : ∃ N, N = w.heap.size := ⟨_, rfl⟩
  obtain ⟨W, hW⟩ : ∃ W, W = w.alloc (.cells (exA x) 51) := ⟨_, rfl⟩
  have hbA := ba (br w) (.cells (exA x) 51)
  have hxA := heap_alloc_new w (.cells (exA x) 51)
  rw [← hW] at hxA hbA
  rw [← hN] at hxA
  have h1 := h.below hbA
  have hne : N ≠ w0.heap.size := by have := h.lt; omega
  have HB := Lib.hid (And.intro hne (And.intro (Kept.of_below (S := fun b => b = w0.heap.size) hbA) hxA))
  have HL := Lib.hid hl
  have k1 : Kept (fun b => b = w0.heap.size) W W := .refl _ _
  have z1 : s.size ≤ s.size + 0 := Nat.le_refl _
  have r1 := MkR.refl s e
  have HX := Lib.hid hx
  clear hx
  clear hne hbA h hl hxA
  have hma : exA x = #[.int .i64 x.who, .int .u64 (x.oe : Int), .int .i64 x.orp, .slice x.ca x.cs.length x.cc, .int .u64 (x.ls : Int), .int .i64 x.lf] := rfl
  rw [hma] at hW ⊢
  go_enter Try.func73, Try.ntmps73
  go_upto_region 1 with (fail)
  rw [← hW, ← hN]
  clear hma hW hN
  have b1 := k1.keep HB.out.2.2 HB.out.1
  have c0 : W.cell? ⟨N, 0, none⟩ = some (.int .i64 x.who) := cell_of_row _ _ 0 _ _ _ b1
  have H1 := Lib.hid (mProc_any h1 x.who (by have := HL.out; omega))
  have HK1 := Lib.hid (And.intro k1 (And.intro z1 r1))
  clear h1 k1 r1 b1
  go_wp2_with fail
  refine H1.out.mono ?_
  rintro en w2 ⟨rfl, s2, e2, h2, k2, z2, r2⟩
  replace k2 := HK1.out.1.trans k2
  replace z2 : s2.size ≤ s.size + (0 + 1) := by have := HK1.out.2.1; omega
  replace r2 := HK1.out.2.2.seq r2
  clear c0
  clear H1 HK1 z1
  have b2 := k2.keep HB.out.2.2 HB.out.1
  have c1 : w2.cell? ⟨N, 1, none⟩ = some (.int .u64 (x.oe : Int)) := cell_of_row _ _ 1 _ _ _ b2
  have c2 : w2.cell? ⟨N, 2, none⟩ = some (.int .i64 x.orp) := cell_of_row _ _ 2 _ _ _ b2
  have H2 := Lib.hid (mConf_any h2 x.oe x.orp HX.out.1 (by have := HL.out; omega))
  have HK2 := Lib.hid (And.intro k2 (And.intro z2 r2))
  clear h2 k2 r2 b2
  go_wp2_with fail
  refine H2.out.mono ?_
  rintro en w3 ⟨rfl, s3, e3, h3, k3, z3, r3⟩
  replace k3 := HK2.out.1.trans k3
  replace z3 : s3.size ≤ s.size + (0 + 1 + 9) := by have := HK2.out.2.1; omega
  replace r3 := HK2.out.2.2.seq r3
  clear c1 c2
  clear H2 HK2 z2
  have b3 := k3.keep HB.out.2.2 HB.out.1
  have c3 : w3.cell? ⟨N, 3, none⟩ = some (.slice x.ca x.cs.length x.cc) := cell_of_row _ _ 3 _ _ _ b3
  have H3 := Lib.hid (mVec_any h3 x.ca x.cc x.cs HX.out.2.2 (by have := HL.out; omega))
  have HK3 := Lib.hid (And.intro k3 (And.intro z3 r3))
  clear h3 k3 r3 b3
  go_wp2_with fail
  refine H3.out.mono ?_
  rintro en w4 ⟨rfl, s4, e4, h4, k4, z4, r4⟩
  replace k4 := HK3.out.1.trans k4
  replace z4 : s4.size ≤ s.size + (0 + 1 + 9 + 257) := by have := HK3.out.2.1; omega
  replace r4 := HK3.out.2.2.seq r4
  clear c3
  clear H3 HK3 z3
  have b4 := k4.keep HB.out.2.2 HB.out.1
  have c4 : w4.cell? ⟨N, 4, none⟩ = some (.int .u64 (x.ls : Int)) := cell_of_row _ _ 4 _ _ _ b4
  have H4 := Lib.hid (mNum_any h4 x.ls 8 (by have := HL.out; omega) HX.out.2.1 (by omega))
  have HK4 := Lib.hid (And.intro k4 (And.intro z4 r4))
  clear h4 k4 r4 b4
  go_wp2_with fail
  refine H4.out.mono ?_
  rintro en w5 ⟨rfl, s5, e5, h5, k5, z5, r5⟩
  replace k5 := HK4.out.1.trans k5
  replace z5 : s5.size ≤ s.size + (0 + 1 + 9 + 257 + 8) := by have := HK4.out.2.1; omega
  replace r5 := HK4.out.2.2.seq r5
  clear c4
  clear H4 HK4 z4
  have b5 := k5.keep HB.out.2.2 HB.out.1
  have c5 : w5.cell? ⟨N, 5, none⟩ = some (.int .i64 x.lf) := cell_of_row _ _ 5 _ _ _ b5
  have H5 := Lib.hid (mProc_any h5 x.lf (by have := HL.out; omega))
  have HK5 := Lib.hid (And.intro k5 (And.intro z5 r5))
  clear h5 k5 r5 b5
  go_wp2_with fail
  refine H5.out.mono ?_
  rintro en w6 ⟨rfl, s6, e6, h6, k6, z6, r6⟩
  replace k6 := HK5.out.1.trans k6
  replace z6 : s6.size ≤ s.size + (0 + 1 + 9 + 257 + 8 + 1) := by have := HK5.out.2.1; omega
  replace r6 := HK5.out.2.2.seq r6
  clear c5
  clear H5 HK5 z5
  have HE := Lib.hid (MkEnd.eq (K' := (276)) (w := w) (show MkEnd w0.heap.size w0 w s e _ (0 + 1 + 9 + 257 + 8 + 1) (.returned (.tuple #[])) w6 from ⟨rfl, s6, e6, h6, HB.out.2.1.trans k6, z6, r6⟩) (by simp only [nil_cat, cat_assoc]; rfl) (by omega))
  clear h6 k6 r6 z6
  go_wp2_with fail
  go_end0
  exact HE.out
end Go.Proofs.Ytgpojbmloielmaa
