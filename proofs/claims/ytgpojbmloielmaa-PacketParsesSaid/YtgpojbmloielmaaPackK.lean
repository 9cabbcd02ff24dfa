/-
  What the reference's maker makes of a field.
  Conditions: those that each theorem names.
-/
import Derived.Test.YtgpojbmloielmaaPackJ
namespace Go.Proofs.Ytgpojbmloielmaa
set_option linter.unusedVariables false
set_option linter.unusedSimpArgs false
open Go.RowKit
set_option maxHeartbeats 8000000 in
theorem mFld_c {w0 w : World} {s : ByteArray} {e : Int} (h : MkAt w0.heap.size w0 w s e) (p : Pkt) (hp : PktOk w0 p) (hl : s.size ≤ 97000000) :
    Calls Try.prog 34 #[.pointer (some ⟨w0.heap.size, 0, none⟩), .int .u8 99, .agg (pktA p)] w fun en w' => MkEnd w0.heap.size w0 w s e (confL p.ce p.cr) (60000) en w' := by
  obtain ⟨N, hN⟩ : ∃ N, N = w.heap.size := ⟨_, rfl⟩
  obtain ⟨W, hW⟩ : ∃ W, W = w.alloc (.cells (pktA p) 35) := ⟨_, rfl⟩
  have hbA := ba (br w) (.cells (pktA p) 35)
  have hxA := heap_alloc_new w (.cells (pktA p) 35)
  rw [← hW] at hxA hbA
  rw [← hN] at hxA
  have h1 := h.below hbA
  have hne : N ≠ w0.heap.size := by have := h.lt; omega
  have HB := Lib.hid (And.intro hne (And.intro (Kept.of_below (S := fun b => b = w0.heap.size) hbA) hxA))
  have HL := Lib.hid hl
  have k1 : Kept (fun b => b = w0.heap.size) W W := .refl _ _
  have z1 : s.size ≤ s.size + 0 := Nat.le_refl _
  have r1 := MkR.refl s e
  have HP := Lib.hid hp
  clear hp
  clear hne hbA h hl hxA
  have hma : pktA p = #[.int .i64 p.kind, .int .i64 p.frm, .int .i64 p.dst, .int .u64 (p.ce : Int), .int .i64 p.cr, .int .i64 p.m.frm, .int .u32 (p.m.seq : Int), .int .u64 (p.m.stamp : Int), .int .i64 p.m.service, .slice p.m.da p.m.ds.length p.m.dc, .string p.m.pay, .int .u64 (p.stamp : Int), .int .u32 (p.sent : Int), .slice p.ga p.got.length p.gc, .int .u64 (p.hor : Int), .int .i64 p.whom, .int .u32 (p.seq : Int), .int .u64 (p.mem : Int), .int .u64 (p.pe : Int), .int .i64 p.pr, .int .u64 (p.epoch : Int), .slice p.xa p.xs.length p.xc] := rfl
  rw [hma] at hW ⊢
  go_enter Try.func34, Try.ntmps34
  go_upto_region 1 with (fail)
  rw [← hW, ← hN]
  clear hma hW hN
  have b1 := k1.keep HB.out.2.2 HB.out.1
  have c3 : W.cell? ⟨N, 3, none⟩ = some (.int .u64 (p.ce : Int)) := cell_of_row _ _ 3 _ _ _ b1
  have c4 : W.cell? ⟨N, 4, none⟩ = some (.int .i64 p.cr) := cell_of_row _ _ 4 _ _ _ b1
  have H1 := Lib.hid (mConf_any h1 p.ce p.cr HP.out.ce (by have := HL.out; omega))
  have HK1 := Lib.hid (And.intro k1 (And.intro z1 r1))
  clear h1 k1 r1 b1
  go_wp2_with fail
  refine H1.out.mono ?_
  rintro en w2 ⟨rfl, s2, e2, h2, k2, z2, r2⟩
  replace k2 := HK1.out.1.trans k2
  replace z2 : s2.size ≤ s.size + (0 + 9) := by have := HK1.out.2.1; omega
  replace r2 := HK1.out.2.2.seq r2
  clear c3 c4
  clear H1 HK1 z1
  have HE := Lib.hid (MkEnd.eq (K' := (60000)) (w := w) (show MkEnd w0.heap.size w0 w s e _ (0 + 9) (.returned (.tuple #[])) w2 from ⟨rfl, s2, e2, h2, HB.out.2.1.trans k2, z2, r2⟩) (by rw [nil_cat]) (by omega))
  clear h2 k2 r2 z2
  go_wp2_with fail
  go_end0
  exact HE.out
set_option maxHeartbeats 8000000 in
theorem mFld_m {w0 w : World} {s : ByteArray} {e : Int} (h : MkAt w0.heap.size w0 w s e) (p : Pkt) (hp : PktOk w0 p) (hl : s.size ≤ 97000000) :
    Calls Try.prog 34 #[.pointer (some ⟨w0.heap.size, 0, none⟩), .int .u8 109, .agg (pktA p)] w fun en w' => MkEnd w0.heap.size w0 w s e (msgL p.m) (60000 + p.m.pay.size) en w' := by
  obtain ⟨N, hN⟩ : ∃ N, N = w.heap.size := ⟨_, rfl⟩
  obtain ⟨W, hW⟩ : ∃ W, W = w.alloc (.cells (pktA p) 35) := ⟨_, rfl⟩
  have hbA := ba (br w) (.cells (pktA p) 35)
  have hxA := heap_alloc_new w (.cells (pktA p) 35)
  rw [← hW] at hxA hbA
  rw [← hN] at hxA
  have h1 := h.below hbA
  have hne : N ≠ w0.heap.size := by have := h.lt; omega
  have HB := Lib.hid (And.intro hne (And.intro (Kept.of_below (S := fun b => b = w0.heap.size) hbA) hxA))
  have HL := Lib.hid hl
  have k1 : Kept (fun b => b = w0.heap.size) W W := .refl _ _
  have z1 : s.size ≤ s.size + 0 := Nat.le_refl _
  have r1 := MkR.refl s e
  have HP := Lib.hid hp
  clear hp
  clear hne hbA h hl hxA
  have hma : pktA p = #[.int .i64 p.kind, .int .i64 p.frm, .int .i64 p.dst, .int .u64 (p.ce : Int), .int .i64 p.cr, .int .i64 p.m.frm, .int .u32 (p.m.seq : Int), .int .u64 (p.m.stamp : Int), .int .i64 p.m.service, .slice p.m.da p.m.ds.length p.m.dc, .string p.m.pay, .int .u64 (p.stamp : Int), .int .u32 (p.sent : Int), .slice p.ga p.got.length p.gc, .int .u64 (p.hor : Int), .int .i64 p.whom, .int .u32 (p.seq : Int), .int .u64 (p.mem : Int), .int .u64 (p.pe : Int), .int .i64 p.pr, .int .u64 (p.epoch : Int), .slice p.xa p.xs.length p.xc] := rfl
  rw [hma] at hW ⊢
  go_enter Try.func34, Try.ntmps34
  go_upto_region 1 with (fail)
  rw [← hW, ← hN]
  clear hma hW hN
  have b1 := k1.keep HB.out.2.2 HB.out.1
  have c5 : W.cell? ⟨N, 5, none⟩ = some (.int .i64 p.m.frm) := cell_of_row _ _ 5 _ _ _ b1
  have c6 : W.cell? ⟨N, 6, none⟩ = some (.int .u32 (p.m.seq : Int)) := cell_of_row _ _ 6 _ _ _ b1
  have c7 : W.cell? ⟨N, 7, none⟩ = some (.int .u64 (p.m.stamp : Int)) := cell_of_row _ _ 7 _ _ _ b1
  have c8 : W.cell? ⟨N, 8, none⟩ = some (.int .i64 p.m.service) := cell_of_row _ _ 8 _ _ _ b1
  have c9 : W.cell? ⟨N, 9, none⟩ = some (.slice p.m.da p.m.ds.length p.m.dc) := cell_of_row _ _ 9 _ _ _ b1
  have c10 : W.cell? ⟨N, 10, none⟩ = some (.string p.m.pay) := cell_of_row _ _ 10 _ _ _ b1
  have H1 := Lib.hid (mMsg_any h1 p.m HP.out.m (by have := HL.out; omega))
  have HK1 := Lib.hid (And.intro k1 (And.intro z1 r1))
  clear h1 k1 r1 b1
  go_wp2_with fail
  refine H1.out.mono ?_
  rintro en w2 ⟨rfl, s2, e2, h2, k2, z2, r2⟩
  replace k2 := HK1.out.1.trans k2
  replace z2 : s2.size ≤ s.size + (0 + (60000 + p.m.pay.size)) := by have := HK1.out.2.1; omega
  replace r2 := HK1.out.2.2.seq r2
  clear c5 c6 c7 c8 c9 c10
  clear H1 HK1 z1
  have HE := Lib.hid (MkEnd.eq (K' := (60000 + p.m.pay.size)) (w := w) (show MkEnd w0.heap.size w0 w s e _ (0 + (60000 + p.m.pay.size)) (.returned (.tuple #[])) w2 from ⟨rfl, s2, e2, h2, HB.out.2.1.trans k2, z2, r2⟩) (by rw [nil_cat]) (by omega))
  clear h2 k2 r2 z2
  go_wp2_with fail
  go_end0
  exact HE.out
set_option maxHeartbeats 8000000 in
theorem mFld_s {w0 w : World} {s : ByteArray} {e : Int} (h : MkAt w0.heap.size w0 w s e) (p : Pkt) (hp : PktOk w0 p) (hl : s.size ≤ 97000000) :
    Calls Try.prog 34 #[.pointer (some ⟨w0.heap.size, 0, none⟩), .int .u8 115, .agg (pktA p)] w fun en w' => MkEnd w0.heap.size w0 w s e (.ok (putL p.stamp 8)) (60000) en w' := by
  obtain ⟨N, hN⟩ : ∃ N, N = w.heap.size := ⟨_, rfl⟩
  obtain ⟨W, hW⟩ : ∃ W, W = w.alloc (.cells (pktA p) 35) := ⟨_, rfl⟩
  have hbA := ba (br w) (.cells (pktA p) 35)
  have hxA := heap_alloc_new w (.cells (pktA p) 35)
  rw [← hW] at hxA hbA
  rw [← hN] at hxA
  have h1 := h.below hbA
  have hne : N ≠ w0.heap.size := by have := h.lt; omega
  have HB := Lib.hid (And.intro hne (And.intro (Kept.of_below (S := fun b => b = w0.heap.size) hbA) hxA))
  have HL := Lib.hid hl
  have k1 : Kept (fun b => b = w0.heap.size) W W := .refl _ _
  have z1 : s.size ≤ s.size + 0 := Nat.le_refl _
  have r1 := MkR.refl s e
  have HP := Lib.hid hp
  clear hp
  clear hne hbA h hl hxA
  have hma : pktA p = #[.int .i64 p.kind, .int .i64 p.frm, .int .i64 p.dst, .int .u64 (p.ce : Int), .int .i64 p.cr, .int .i64 p.m.frm, .int .u32 (p.m.seq : Int), .int .u64 (p.m.stamp : Int), .int .i64 p.m.service, .slice p.m.da p.m.ds.length p.m.dc, .string p.m.pay, .int .u64 (p.stamp : Int), .int .u32 (p.sent : Int), .slice p.ga p.got.length p.gc, .int .u64 (p.hor : Int), .int .i64 p.whom, .int .u32 (p.seq : Int), .int .u64 (p.mem : Int), .int .u64 (p.pe : Int), .int .i64 p.pr, .int .u64 (p.epoch : Int), .slice p.xa p.xs.length p.xc] := rfl
  rw [hma] at hW ⊢
  go_enter Try.func34, Try.ntmps34
  go_upto_region 1 with (fail)
  rw [← hW, ← hN]
  clear hma hW hN
  have b1 := k1.keep HB.out.2.2 HB.out.1
  have c11 : W.cell? ⟨N, 11, none⟩ = some (.int .u64 (p.stamp : Int)) := cell_of_row _ _ 11 _ _ _ b1
  have H1 := Lib.hid (mNum_any h1 p.stamp 8 (by have := HL.out; omega) HP.out.stamp (by omega))
  have HK1 := Lib.hid (And.intro k1 (And.intro z1 r1))
  clear h1 k1 r1 b1
  go_wp2_with fail
  refine H1.out.mono ?_
  rintro en w2 ⟨rfl, s2, e2, h2, k2, z2, r2⟩
  replace k2 := HK1.out.1.trans k2
  replace z2 : s2.size ≤ s.size + (0 + 8) := by have := HK1.out.2.1; omega
  replace r2 := HK1.out.2.2.seq r2
  clear c11
  clear H1 HK1 z1
  have HE := Lib.hid (MkEnd.eq (K' := (60000)) (w := w) (show MkEnd w0.heap.size w0 w s e _ (0 + 8) (.returned (.tuple #[])) w2 from ⟨rfl, s2, e2, h2, HB.out.2.1.trans k2, z2, r2⟩) (by rw [nil_cat]) (by omega))
  clear h2 k2 r2 z2
  go_wp2_with fail
  go_end0
  exact HE.out
set_option maxHeartbeats 8000000 in
theorem mFld_n {w0 w : World} {s : ByteArray} {e : Int} (h : MkAt w0.heap.size w0 w s e) (p : Pkt) (hp : PktOk w0 p) (hl : s.size ≤ 97000000) :
    Calls Try.prog 34 #[.pointer (some ⟨w0.heap.size, 0, none⟩), .int .u8 110, .agg (pktA p)] w fun en w' => MkEnd w0.heap.size w0 w s e (.ok (putL p.sent 4)) (60000) en w' := by
  obtain ⟨N, hN⟩ : ∃ N, N = w.heap.size := ⟨_, rfl⟩
  obtain ⟨W, hW⟩ : ∃ W, W = w.alloc (.cells (pktA p) 35) := ⟨_, rfl⟩
  have hbA := ba (br w) (.cells (pktA p) 35)
  have hxA := heap_alloc_new w (.cells (pktA p) 35)
  rw [← hW] at hxA hbA
  rw [← hN] at hxA
  have h1 := h.below hbA
  have hne : N ≠ w0.heap.size := by have := h.lt; omega
  have HB := Lib.hid (And.intro hne (And.intro (Kept.of_below (S := fun b => b = w0.heap.size) hbA) hxA))
  have HL := Lib.hid hl
  have k1 : Kept (fun b => b = w0.heap.size) W W := .refl _ _
  have z1 : s.size ≤ s.size + 0 := Nat.le_refl _
  have r1 := MkR.refl s e
  have hw_sent : IntKind.u64.wrap (p.sent : Int) = (p.sent : Int) := by rw [IntKind.wrap_u64]; have := hp.sent; omega
  have HP := Lib.hid hp
  clear hp
  clear hne hbA h hl hxA
  have hma : pktA p = #[.int .i64 p.kind, .int .i64 p.frm, .int .i64 p.dst, .int .u64 (p.ce : Int), .int .i64 p.cr, .int .i64 p.m.frm, .int .u32 (p.m.seq : Int), .int .u64 (p.m.stamp : Int), .int .i64 p.m.service, .slice p.m.da p.m.ds.length p.m.dc, .string p.m.pay, .int .u64 (p.stamp : Int), .int .u32 (p.sent : Int), .slice p.ga p.got.length p.gc, .int .u64 (p.hor : Int), .int .i64 p.whom, .int .u32 (p.seq : Int), .int .u64 (p.mem : Int), .int .u64 (p.pe : Int), .int .i64 p.pr, .int .u64 (p.epoch : Int), .slice p.xa p.xs.length p.xc] := rfl
  rw [hma] at hW ⊢
  go_enter Try.func34, Try.ntmps34
  go_upto_region 1 with (fail)
  rw [← hW, ← hN]
  clear hma hW hN
  have b1 := k1.keep HB.out.2.2 HB.out.1
  have c12 : W.cell? ⟨N, 12, none⟩ = some (.int .u32 (p.sent : Int)) := cell_of_row _ _ 12 _ _ _ b1
  have H1 := Lib.hid (mNum_any h1 p.sent 4 (by have := HL.out; omega) (by have := HP.out.sent; omega) (by omega))
  have HK1 := Lib.hid (And.intro k1 (And.intro z1 r1))
  clear h1 k1 r1 b1
  go_wp2_with fail
  refine H1.out.mono ?_
  rintro en w2 ⟨rfl, s2, e2, h2, k2, z2, r2⟩
  replace k2 := HK1.out.1.trans k2
  replace z2 : s2.size ≤ s.size + (0 + 4) := by have := HK1.out.2.1; omega
  replace r2 := HK1.out.2.2.seq r2
  clear c12
  clear H1 HK1 z1
  have HE := Lib.hid (MkEnd.eq (K' := (60000)) (w := w) (show MkEnd w0.heap.size w0 w s e _ (0 + 4) (.returned (.tuple #[])) w2 from ⟨rfl, s2, e2, h2, HB.out.2.1.trans k2, z2, r2⟩) (by rw [nil_cat]) (by omega))
  clear h2 k2 r2 z2
  go_wp2_with fail
  go_end0
  exact HE.out
set_option maxHeartbeats 8000000 in
theorem mFld_g {w0 w : World} {s : ByteArray} {e : Int} (h : MkAt w0.heap.size w0 w s e) (p : Pkt) (hp : PktOk w0 p) (hl : s.size ≤ 97000000) :
    Calls Try.prog 34 #[.pointer (some ⟨w0.heap.size, 0, none⟩), .int .u8 103, .agg (pktA p)] w fun en w' => MkEnd w0.heap.size w0 w s e (vecL p.got) (60000) en w' := by
  obtain ⟨N, hN⟩ : ∃ N, N = w.heap.size := ⟨_, rfl⟩
  obtain ⟨W, hW⟩ : ∃ W, W = w.alloc (.cells (pktA p) 35) := ⟨_, rfl⟩
  have hbA := ba (br w) (.cells (pktA p) 35)
  have hxA := heap_alloc_new w (.cells (pktA p) 35)
  rw [← hW] at hxA hbA
  rw [← hN] at hxA
  have h1 := h.below hbA
  have hne : N ≠ w0.heap.size := by have := h.lt; omega
  have HB := Lib.hid (And.intro hne (And.intro (Kept.of_below (S := fun b => b = w0.heap.size) hbA) hxA))
  have HL := Lib.hid hl
  have k1 : Kept (fun b => b = w0.heap.size) W W := .refl _ _
  have z1 : s.size ≤ s.size + 0 := Nat.le_refl _
  have r1 := MkR.refl s e
  have HP := Lib.hid hp
  clear hp
  clear hne hbA h hl hxA
  have hma : pktA p = #[.int .i64 p.kind, .int .i64 p.frm, .int .i64 p.dst, .int .u64 (p.ce : Int), .int .i64 p.cr, .int .i64 p.m.frm, .int .u32 (p.m.seq : Int), .int .u64 (p.m.stamp : Int), .int .i64 p.m.service, .slice p.m.da p.m.ds.length p.m.dc, .string p.m.pay, .int .u64 (p.stamp : Int), .int .u32 (p.sent : Int), .slice p.ga p.got.length p.gc, .int .u64 (p.hor : Int), .int .i64 p.whom, .int .u32 (p.seq : Int), .int .u64 (p.mem : Int), .int .u64 (p.pe : Int), .int .i64 p.pr, .int .u64 (p.epoch : Int), .slice p.xa p.xs.length p.xc] := rfl
  rw [hma] at hW ⊢
  go_enter Try.func34, Try.ntmps34
  go_upto_region 1 with (fail)
  rw [← hW, ← hN]
  clear hma hW hN
  have b1 := k1.keep HB.out.2.2 HB.out.1
  have c13 : W.cell? ⟨N, 13, none⟩ = some (.slice p.ga p.got.length p.gc) := cell_of_row _ _ 13 _ _ _ b1
  have H1 := Lib.hid (mVec_any h1 p.ga p.gc p.got HP.out.got (by have := HL.out; omega))
  have HK1 := Lib.hid (And.intro k1 (And.intro z1 r1))
  clear h1 k1 r1 b1
  go_wp2_with fail
  refine H1.out.mono ?_
  rintro en w2 ⟨rfl, s2, e2, h2, k2, z2, r2⟩
  replace k2 := HK1.out.1.trans k2
  replace z2 : s2.size ≤ s.size + (0 + 257) := by have := HK1.out.2.1; omega
  replace r2 := HK1.out.2.2.seq r2
  clear c13
  clear H1 HK1 z1
  have HE := Lib.hid (MkEnd.eq (K' := (60000)) (w := w) (show MkEnd w0.heap.size w0 w s e _ (0 + 257) (.returned (.tuple #[])) w2 from ⟨rfl, s2, e2, h2, HB.out.2.1.trans k2, z2, r2⟩) (by rw [nil_cat]) (by omega))
  clear h2 k2 r2 z2
  go_wp2_with fail
  go_end0
  exact HE.out
set_option maxHeartbeats 8000000 in
theorem mFld_h {w0 w : World} {s : ByteArray} {e : Int} (h : MkAt w0.heap.size w0 w s e) (p : Pkt) (hp : PktOk w0 p) (hl : s.size ≤ 97000000) :
    Calls Try.prog 34 #[.pointer (some ⟨w0.heap.size, 0, none⟩), .int .u8 104, .agg (pktA p)] w fun en w' => MkEnd w0.heap.size w0 w s e (.ok (putL p.hor 8)) (60000) en w' := by
  obtain ⟨N, hN⟩ : ∃ N, N = w.heap.size := ⟨_, rfl⟩
  obtain ⟨W, hW⟩ : ∃ W, W = w.alloc (.cells (pktA p) 35) := ⟨_, rfl⟩
  have hbA := ba (br w) (.cells (pktA p) 35)
  have hxA := heap_alloc_new w (.cells (pktA p) 35)
  rw [← hW] at hxA hbA
  rw [← hN] at hxA
  have h1 := h.below hbA
  have hne : N ≠ w0.heap.size := by have := h.lt; omega
  have HB := Lib.hid (And.intro hne (And.intro (Kept.of_below (S := fun b => b = w0.heap.size) hbA) hxA))
  have HL := Lib.hid hl
  have k1 : Kept (fun b => b = w0.heap.size) W W := .refl _ _
  have z1 : s.size ≤ s.size + 0 := Nat.le_refl _
  have r1 := MkR.refl s e
  have HP := Lib.hid hp
  clear hp
  clear hne hbA h hl hxA
  have hma : pktA p = #[.int .i64 p.kind, .int .i64 p.frm, .int .i64 p.dst, .int .u64 (p.ce : Int), .int .i64 p.cr, .int .i64 p.m.frm, .int .u32 (p.m.seq : Int), .int .u64 (p.m.stamp : Int), .int .i64 p.m.service, .slice p.m.da p.m.ds.length p.m.dc, .string p.m.pay, .int .u64 (p.stamp : Int), .int .u32 (p.sent : Int), .slice p.ga p.got.length p.gc, .int .u64 (p.hor : Int), .int .i64 p.whom, .int .u32 (p.seq : Int), .int .u64 (p.mem : Int), .int .u64 (p.pe : Int), .int .i64 p.pr, .int .u64 (p.epoch : Int), .slice p.xa p.xs.length p.xc] := rfl
  rw [hma] at hW ⊢
  go_enter Try.func34, Try.ntmps34
  go_upto_region 1 with (fail)
  rw [← hW, ← hN]
  clear hma hW hN
  have b1 := k1.keep HB.out.2.2 HB.out.1
  have c14 : W.cell? ⟨N, 14, none⟩ = some (.int .u64 (p.hor : Int)) := cell_of_row _ _ 14 _ _ _ b1
  have H1 := Lib.hid (mNum_any h1 p.hor 8 (by have := HL.out; omega) HP.out.hor (by omega))
  have HK1 := Lib.hid (And.intro k1 (And.intro z1 r1))
  clear h1 k1 r1 b1
  go_wp2_with fail
  refine H1.out.mono ?_
  rintro en w2 ⟨rfl, s2, e2, h2, k2, z2, r2⟩
  replace k2 := HK1.out.1.trans k2
  replace z2 : s2.size ≤ s.size + (0 + 8) := by have := HK1.out.2.1; omega
  replace r2 := HK1.out.2.2.seq r2
  clear c14
  clear H1 HK1 z1
  have HE := Lib.hid (MkEnd.eq (K' := (60000)) (w := w) (show MkEnd w0.heap.size w0 w s e _ (0 + 8) (.returned (.tuple #[])) w2 from ⟨rfl, s2, e2, h2, HB.out.2.1.trans k2, z2, r2⟩) (by rw [nil_cat]) (by omega))
  clear h2 k2 r2 z2
  go_wp2_with fail
  go_end0
  exact HE.out
set_option maxHeartbeats 8000000 in
theorem mFld_w {w0 w : World} {s : ByteArray} {e : Int} (h : MkAt w0.heap.size w0 w s e) (p : Pkt) (hp : PktOk w0 p) (hl : s.size ≤ 97000000) :
    Calls Try.prog 34 #[.pointer (some ⟨w0.heap.size, 0, none⟩), .int .u8 119, .agg (pktA p)] w fun en w' => MkEnd w0.heap.size w0 w s e (procL p.whom) (60000) en w' := by
  obtain ⟨N, hN⟩ : ∃ N, N = w.heap.size := ⟨_, rfl⟩
  obtain ⟨W, hW⟩ : ∃ W, W = w.alloc (.cells (pktA p) 35) := ⟨_, rfl⟩
  have hbA := ba (br w) (.cells (pktA p) 35)
  have hxA := heap_alloc_new w (.cells (pktA p) 35)
  rw [← hW] at hxA hbA
  rw [← hN] at hxA
  have h1 := h.below hbA
  have hne : N ≠ w0.heap.size := by have := h.lt; omega
  have HB := Lib.hid (And.intro hne (And.intro (Kept.of_below (S := fun b => b = w0.heap.size) hbA) hxA))
  have HL := Lib.hid hl
  have k1 : Kept (fun b => b = w0.heap.size) W W := .refl _ _
  have z1 : s.size ≤ s.size + 0 := Nat.le_refl _
  have r1 := MkR.refl s e
  have HP := Lib.hid hp
  clear hp
  clear hne hbA h hl hxA
  have hma : pktA p = #[.int .i64 p.kind, .int .i64 p.frm, .int .i64 p.dst, .int .u64 (p.ce : Int), .int .i64 p.cr, .int .i64 p.m.frm, .int .u32 (p.m.seq : Int), .int .u64 (p.m.stamp : Int), .int .i64 p.m.service, .slice p.m.da p.m.ds.length p.m.dc, .string p.m.pay, .int .u64 (p.stamp : Int), .int .u32 (p.sent : Int), .slice p.ga p.got.length p.gc, .int .u64 (p.hor : Int), .int .i64 p.whom, .int .u32 (p.seq : Int), .int .u64 (p.mem : Int), .int .u64 (p.pe : Int), .int .i64 p.pr, .int .u64 (p.epoch : Int), .slice p.xa p.xs.length p.xc] := rfl
  rw [hma] at hW ⊢
  go_enter Try.func34, Try.ntmps34
  go_upto_region 1 with (fail)
  rw [← hW, ← hN]
  clear hma hW hN
  have b1 := k1.keep HB.out.2.2 HB.out.1
  have c15 : W.cell? ⟨N, 15, none⟩ = some (.int .i64 p.whom) := cell_of_row _ _ 15 _ _ _ b1
  have H1 := Lib.hid (mProc_any h1 p.whom (by have := HL.out; omega))
  have HK1 := Lib.hid (And.intro k1 (And.intro z1 r1))
  clear h1 k1 r1 b1
  go_wp2_with fail
  refine H1.out.mono ?_
  rintro en w2 ⟨rfl, s2, e2, h2, k2, z2, r2⟩
  replace k2 := HK1.out.1.trans k2
  replace z2 : s2.size ≤ s.size + (0 + 1) := by have := HK1.out.2.1; omega
  replace r2 := HK1.out.2.2.seq r2
  clear c15
  clear H1 HK1 z1
  have HE := Lib.hid (MkEnd.eq (K' := (60000)) (w := w) (show MkEnd w0.heap.size w0 w s e _ (0 + 1) (.returned (.tuple #[])) w2 from ⟨rfl, s2, e2, h2, HB.out.2.1.trans k2, z2, r2⟩) (by rw [nil_cat]) (by omega))
  clear h2 k2 r2 z2
  go_wp2_with fail
  go_end0
  exact HE.out
set_option maxHeartbeats 8000000 in
theorem mFld_q {w0 w : World} {s : ByteArray} {e : Int} (h : MkAt w0.heap.size w0 w s e) (p : Pkt) (hp : PktOk w0 p) (hl : s.size ≤ 97000000) :
    Calls Try.prog 34 #[.pointer (some ⟨w0.heap.size, 0, none⟩), .int .u8 113, .agg (pktA p)] w fun en w' => MkEnd w0.heap.size w0 w s e (.ok (putL p.seq 4)) (60000) en w' := by
  obtain ⟨N, hN⟩ : ∃ N, N = w.heap.size := ⟨_, rfl⟩
  obtain ⟨W, hW⟩ : ∃ W, W = w.alloc (.cells (pktA p) 35) := ⟨_, rfl⟩
  have hbA := ba (br w) (.cells (pktA p) 35)
  have hxA := heap_alloc_new w (.cells (pktA p) 35)
  rw [← hW] at hxA hbA
  rw [← hN] at hxA
  have h1 := h.below hbA
  have hne : N ≠ w0.heap.size := by have := h.lt; omega
  have HB := Lib.hid (And.intro hne (And.intro (Kept.of_below (S := fun b => b = w0.heap.size) hbA) hxA))
  have HL := Lib.hid hl
  have k1 : Kept (fun b => b = w0.heap.size) W W := .refl _ _
  have z1 : s.size ≤ s.size + 0 := Nat.le_refl _
  have r1 := MkR.refl s e
  have hw_seq : IntKind.u64.wrap (p.seq : Int) = (p.seq : Int) := by rw [IntKind.wrap_u64]; have := hp.seq; omega
  have HP := Lib.hid hp
  clear hp
  clear hne hbA h hl hxA
  have hma : pktA p = #[.int .i64 p.kind, .int .i64 p.frm, .int .i64 p.dst, .int .u64 (p.ce : Int), .int .i64 p.cr, .int .i64 p.m.frm, .int .u32 (p.m.seq : Int), .int .u64 (p.m.stamp : Int), .int .i64 p.m.service, .slice p.m.da p.m.ds.length p.m.dc, .string p.m.pay, .int .u64 (p.stamp : Int), .int .u32 (p.sent : Int), .slice p.ga p.got.length p.gc, .int .u64 (p.hor : Int), .int .i64 p.whom, .int .u32 (p.seq : Int), .int .u64 (p.mem : Int), .int .u64 (p.pe : Int), .int .i64 p.pr, .int .u64 (p.epoch : Int), .slice p.xa p.xs.length p.xc] := rfl
  rw [hma] at hW ⊢
  go_enter Try.func34, Try.ntmps34
  go_upto_region 1 with (fail)
  rw [← hW, ← hN]
  clear hma hW hN
  have b1 := k1.keep HB.out.2.2 HB.out.1
  have c16 : W.cell? ⟨N, 16, none⟩ = some (.int .u32 (p.seq : Int)) := cell_of_row _ _ 16 _ _ _ b1
  have H1 := Lib.hid (mNum_any h1 p.seq 4 (by have := HL.out; omega) (by have := HP.out.seq; omega) (by omega))
  have HK1 := Lib.hid (And.intro k1 (And.intro z1 r1))
  clear h1 k1 r1 b1
  go_wp2_with fail
  refine H1.out.mono ?_
  rintro en w2 ⟨rfl, s2, e2, h2, k2, z2, r2⟩
  replace k2 := HK1.out.1.trans k2
  replace z2 : s2.size ≤ s.size + (0 + 4) := by have := HK1.out.2.1; omega
  replace r2 := HK1.out.2.2.seq r2
  clear c16
  clear H1 HK1 z1
  have HE := Lib.hid (MkEnd.eq (K' := (60000)) (w := w) (show MkEnd w0.heap.size w0 w s e _ (0 + 4) (.returned (.tuple #[])) w2 from ⟨rfl, s2, e2, h2, HB.out.2.1.trans k2, z2, r2⟩) (by rw [nil_cat]) (by omega))
  clear h2 k2 r2 z2
  go_wp2_with fail
  go_end0
  exact HE.out
set_option maxHeartbeats 8000000 in
theorem mFld_p {w0 w : World} {s : ByteArray} {e : Int} (h : MkAt w0.heap.size w0 w s e) (p : Pkt) (hp : PktOk w0 p) (hl : s.size ≤ 97000000) :
    Calls Try.prog 34 #[.pointer (some ⟨w0.heap.size, 0, none⟩), .int .u8 112, .agg (pktA p)] w fun en w' => MkEnd w0.heap.size w0 w s e (confL p.pe p.pr) (60000) en w' := by
  obtain ⟨N, hN⟩ : ∃ N, N = w.heap.size := ⟨_, rfl⟩
  obtain ⟨W, hW⟩ : ∃ W, W = w.alloc (.cells (pktA p) 35) := ⟨_, rfl⟩
  have hbA := ba (br w) (.cells (pktA p) 35)
  have hxA := heap_alloc_new w (.cells (pktA p) 35)
  rw [← hW] at hxA hbA
  rw [← hN] at hxA
  have h1 := h.below hbA
  have hne : N ≠ w0.heap.size := by have := h.lt; omega
  have HB := Lib.hid (And.intro hne (And.intro (Kept.of_below (S := fun b => b = w0.heap.size) hbA) hxA))
  have HL := Lib.hid hl
  have k1 : Kept (fun b => b = w0.heap.size) W W := .refl _ _
  have z1 : s.size ≤ s.size + 0 := Nat.le_refl _
  have r1 := MkR.refl s e
  have HP := Lib.hid hp
  clear hp
  clear hne hbA h hl hxA
  have hma : pktA p = #[.int .i64 p.kind, .int .i64 p.frm, .int .i64 p.dst, .int .u64 (p.ce : Int), .int .i64 p.cr, .int .i64 p.m.frm, .int .u32 (p.m.seq : Int), .int .u64 (p.m.stamp : Int), .int .i64 p.m.service, .slice p.m.da p.m.ds.length p.m.dc, .string p.m.pay, .int .u64 (p.stamp : Int), .int .u32 (p.sent : Int), .slice p.ga p.got.length p.gc, .int .u64 (p.hor : Int), .int .i64 p.whom, .int .u32 (p.seq : Int), .int .u64 (p.mem : Int), .int .u64 (p.pe : Int), .int .i64 p.pr, .int .u64 (p.epoch : Int), .slice p.xa p.xs.length p.xc] := rfl
  rw [hma] at hW ⊢
  go_enter Try.func34, Try.ntmps34
  go_upto_region 1 with (fail)
  rw [← hW, ← hN]
  clear hma hW hN
  have b1 := k1.keep HB.out.2.2 HB.out.1
  have c18 : W.cell? ⟨N, 18, none⟩ = some (.int .u64 (p.pe : Int)) := cell_of_row _ _ 18 _ _ _ b1
  have c19 : W.cell? ⟨N, 19, none⟩ = some (.int .i64 p.pr) := cell_of_row _ _ 19 _ _ _ b1
  have H1 := Lib.hid (mConf_any h1 p.pe p.pr HP.out.pe (by have := HL.out; omega))
  have HK1 := Lib.hid (And.intro k1 (And.intro z1 r1))
  clear h1 k1 r1 b1
  go_wp2_with fail
  refine H1.out.mono ?_
  rintro en w2 ⟨rfl, s2, e2, h2, k2, z2, r2⟩
  replace k2 := HK1.out.1.trans k2
  replace z2 : s2.size ≤ s.size + (0 + 9) := by have := HK1.out.2.1; omega
  replace r2 := HK1.out.2.2.seq r2
  clear c18 c19
  clear H1 HK1 z1
  have HE := Lib.hid (MkEnd.eq (K' := (60000)) (w := w) (show MkEnd w0.heap.size w0 w s e _ (0 + 9) (.returned (.tuple #[])) w2 from ⟨rfl, s2, e2, h2, HB.out.2.1.trans k2, z2, r2⟩) (by rw [nil_cat]) (by omega))
  clear h2 k2 r2 z2
  go_wp2_with fail
  go_end0
  exact HE.out
set_option maxHeartbeats 8000000 in
theorem mFld_e {w0 w : World} {s : ByteArray} {e : Int} (h : MkAt w0.heap.size w0 w s e) (p : Pkt) (hp : PktOk w0 p) (hl : s.size ≤ 97000000) :
    Calls Try.prog 34 #[.pointer (some ⟨w0.heap.size, 0, none⟩), .int .u8 101, .agg (pktA p)] w fun en w' => MkEnd w0.heap.size w0 w s e (.ok (putL p.epoch 8)) (60000) en w' := by
  obtain ⟨N, hN⟩ : ∃ N, N = w.heap.size := ⟨_, rfl⟩
  obtain ⟨W, hW⟩ : ∃ W, W = w.alloc (.cells (pktA p) 35) := ⟨_, rfl⟩
  have hbA := ba (br w) (.cells (pktA p) 35)
  have hxA := heap_alloc_new w (.cells (pktA p) 35)
  rw [← hW] at hxA hbA
  rw [← hN] at hxA
  have h1 := h.below hbA
  have hne : N ≠ w0.heap.size := by have := h.lt; omega
  have HB := Lib.hid (And.intro hne (And.intro (Kept.of_below (S := fun b => b = w0.heap.size) hbA) hxA))
  have HL := Lib.hid hl
  have k1 : Kept (fun b => b = w0.heap.size) W W := .refl _ _
  have z1 : s.size ≤ s.size + 0 := Nat.le_refl _
  have r1 := MkR.refl s e
  have HP := Lib.hid hp
  clear hp
  clear hne hbA h hl hxA
  have hma : pktA p = #[.int .i64 p.kind, .int .i64 p.frm, .int .i64 p.dst, .int .u64 (p.ce : Int), .int .i64 p.cr, .int .i64 p.m.frm, .int .u32 (p.m.seq : Int), .int .u64 (p.m.stamp : Int), .int .i64 p.m.service, .slice p.m.da p.m.ds.length p.m.dc, .string p.m.pay, .int .u64 (p.stamp : Int), .int .u32 (p.sent : Int), .slice p.ga p.got.length p.gc, .int .u64 (p.hor : Int), .int .i64 p.whom, .int .u32 (p.seq : Int), .int .u64 (p.mem : Int), .int .u64 (p.pe : Int), .int .i64 p.pr, .int .u64 (p.epoch : Int), .slice p.xa p.xs.length p.xc] := rfl
  rw [hma] at hW ⊢
  go_enter Try.func34, Try.ntmps34
  go_upto_region 1 with (fail)
  rw [← hW, ← hN]
  clear hma hW hN
  have b1 := k1.keep HB.out.2.2 HB.out.1
  have c20 : W.cell? ⟨N, 20, none⟩ = some (.int .u64 (p.epoch : Int)) := cell_of_row _ _ 20 _ _ _ b1
  have H1 := Lib.hid (mNum_any h1 p.epoch 8 (by have := HL.out; omega) HP.out.epoch (by omega))
  have HK1 := Lib.hid (And.intro k1 (And.intro z1 r1))
  clear h1 k1 r1 b1
  go_wp2_with fail
  refine H1.out.mono ?_
  rintro en w2 ⟨rfl, s2, e2, h2, k2, z2, r2⟩
  replace k2 := HK1.out.1.trans k2
  replace z2 : s2.size ≤ s.size + (0 + 8) := by have := HK1.out.2.1; omega
  replace r2 := HK1.out.2.2.seq r2
  clear c20
  clear H1 HK1 z1
  have HE := Lib.hid (MkEnd.eq (K' := (60000)) (w := w) (show MkEnd w0.heap.size w0 w s e _ (0 + 8) (.returned (.tuple #[])) w2 from ⟨rfl, s2, e2, h2, HB.out.2.1.trans k2, z2, r2⟩) (by rw [nil_cat]) (by omega))
  clear h2 k2 r2 z2
  go_wp2_with fail
  go_end0
  exact HE.out
set_option maxHeartbeats 8000000 in
theorem mFld_b {w0 w : World} {s : ByteArray} {e : Int} (h : MkAt w0.heap.size w0 w s e) (p : Pkt) (hp : PktOk w0 p) (hl : s.size ≤ 97000000) :
    Calls Try.prog 34 #[.pointer (some ⟨w0.heap.size, 0, none⟩), .int .u8 98, .agg (pktA p)] w fun en w' => MkEnd w0.heap.size w0 w s e (.ok (putL p.mem 8)) (60000) en w' := by
  obtain ⟨N, hN⟩ : ∃ N, N = w.heap.size := ⟨_, rfl⟩
  obtain ⟨W, hW⟩ : ∃ W, W = w.alloc (.cells (pktA p) 35) := ⟨_, rfl⟩
  have hbA := ba (br w) (.cells (pktA p) 35)
  have hxA := heap_alloc_new w (.cells (pktA p) 35)
  rw [← hW] at hxA hbA
  rw [← hN] at hxA
  have h1 := h.below hbA
  have hne : N ≠ w0.heap.size := by have := h.lt; omega
  have HB := Lib.hid (And.intro hne (And.intro (Kept.of_below (S := fun b => b = w0.heap.size) hbA) hxA))
  have HL := Lib.hid hl
  have k1 : Kept (fun b => b = w0.heap.size) W W := .refl _ _
  have z1 : s.size ≤ s.size + 0 := Nat.le_refl _
  have r1 := MkR.refl s e
  have HP := Lib.hid hp
  clear hp
  clear hne hbA h hl hxA
  have hma : pktA p = #[.int .i64 p.kind, .int .i64 p.frm, .int .i64 p.dst, .int .u64 (p.ce : Int), .int .i64 p.cr, .int .i64 p.m.frm, .int .u32 (p.m.seq : Int), .int .u64 (p.m.stamp : Int), .int .i64 p.m.service, .slice p.m.da p.m.ds.length p.m.dc, .string p.m.pay, .int .u64 (p.stamp : Int), .int .u32 (p.sent : Int), .slice p.ga p.got.length p.gc, .int .u64 (p.hor : Int), .int .i64 p.whom, .int .u32 (p.seq : Int), .int .u64 (p.mem : Int), .int .u64 (p.pe : Int), .int .i64 p.pr, .int .u64 (p.epoch : Int), .slice p.xa p.xs.length p.xc] := rfl
  rw [hma] at hW ⊢
  go_enter Try.func34, Try.ntmps34
  go_upto_region 1 with (fail)
  rw [← hW, ← hN]
  clear hma hW hN
  have b1 := k1.keep HB.out.2.2 HB.out.1
  have c17 : W.cell? ⟨N, 17, none⟩ = some (.int .u64 (p.mem : Int)) := cell_of_row _ _ 17 _ _ _ b1
  have H1 := Lib.hid (mNum_any h1 p.mem 8 (by have := HL.out; omega) HP.out.mem (by omega))
  have HK1 := Lib.hid (And.intro k1 (And.intro z1 r1))
  clear h1 k1 r1 b1
  go_wp2_with fail
  refine H1.out.mono ?_
  rintro en w2 ⟨rfl, s2, e2, h2, k2, z2, r2⟩
  replace k2 := HK1.out.1.trans k2
  replace z2 : s2.size ≤ s.size + (0 + 8) := by have := HK1.out.2.1; omega
  replace r2 := HK1.out.2.2.seq r2
  clear c17
  clear H1 HK1 z1
  have HE := Lib.hid (MkEnd.eq (K' := (60000)) (w := w) (show MkEnd w0.heap.size w0 w s e _ (0 + 8) (.returned (.tuple #[])) w2 from ⟨rfl, s2, e2, h2, HB.out.2.1.trans k2, z2, r2⟩) (by rw [nil_cat]) (by omega))
  clear h2 k2 r2 z2
  go_wp2_with fail
  go_end0
  exact HE.out
theorem MkR.stay {s : ByteArray} {e : Int} {r1 : Except Int (List UInt8)} {s' : ByteArray} {e' : Int} (h : MkR s e r1 s' e') (he : e' ≠ 0) (r2 : Except Int (List UInt8)) : MkR s e (cat r1 r2) s' e' := by
  constructor
  · exact h.1
  · intro h0
    cases r1 with
    | ok x => exact absurd ((h.2 h0).1 x rfl).2 he
    | error c => exact h.2 h0
theorem oneX_bad {xs : List Exch} (hn : ¬ xs.length = 1) : oneX xs = .error 1 := by
  unfold oneX
  split
  · rename_i e; simp at hn
  · rfl
theorem MkR.bad {s : ByteArray} {e : Int} {c : Int} {s' : ByteArray} {e' : Int} (h : MkR s e (.error c) s' e') : e' ≠ 0 := by
  by_cases h0 : e = 0
  · rw [((h.2 h0).2 c rfl).1]; exact ((h.2 h0).2 c rfl).2
  · rw [h.1 h0]; exact h0
set_option maxHeartbeats 8000000 in
theorem mFld_x {w0 w : World} {s : ByteArray} {e : Int} (h : MkAt w0.heap.size w0 w s e) (p : Pkt) (hp : PktOk w0 p) (hl : s.size ≤ 97000000) :
    Calls Try.prog 34 #[.pointer (some ⟨w0.heap.size, 0, none⟩), .int .u8 120, .agg (pktA p)] w fun en w' => MkEnd w0.heap.size w0 w s e (oneX p.xs) (60000) en w' := by
  obtain ⟨N, hN⟩ : ∃ N, N = w.heap.size := ⟨_, rfl⟩
  obtain ⟨W, hW⟩ : ∃ W, W = w.alloc (.cells (pktA p) 35) := ⟨_, rfl⟩
  have hbA := ba (br w) (.cells (pktA p) 35)
  have hxA := heap_alloc_new w (.cells (pktA p) 35)
  rw [← hW] at hxA hbA
  rw [← hN] at hxA
  have h1 := h.below hbA
  have hne : N ≠ w0.heap.size := by have := h.lt; omega
  have HB := Lib.hid (And.intro hne (And.intro (Kept.of_below (S := fun b => b = w0.heap.size) hbA) hxA))
  have HL := Lib.hid hl
  have k1 : Kept (fun b => b = w0.heap.size) W W := .refl _ _
  have z1 : s.size ≤ s.size + 0 := Nat.le_refl _
  have r1 := MkR.refl s e
  have HP := Lib.hid hp
  clear hp
  clear hne hbA h hl hxA
  have hma : pktA p = #[.int .i64 p.kind, .int .i64 p.frm, .int .i64 p.dst, .int .u64 (p.ce : Int), .int .i64 p.cr, .int .i64 p.m.frm, .int .u32 (p.m.seq : Int), .int .u64 (p.m.stamp : Int), .int .i64 p.m.service, .slice p.m.da p.m.ds.length p.m.dc, .string p.m.pay, .int .u64 (p.stamp : Int), .int .u32 (p.sent : Int), .slice p.ga p.got.length p.gc, .int .u64 (p.hor : Int), .int .i64 p.whom, .int .u32 (p.seq : Int), .int .u64 (p.mem : Int), .int .u64 (p.pe : Int), .int .i64 p.pr, .int .u64 (p.epoch : Int), .slice p.xa p.xs.length p.xc] := rfl
  rw [hma] at hW ⊢
  go_enter Try.func34, Try.ntmps34
  go_upto_region 1 with (fail)
  rw [← hW, ← hN]
  clear hma hW hN
  have b1 := k1.keep HB.out.2.2 HB.out.1
  by_cases hn : p.xs.length = 1
  · obtain ⟨x, hx⟩ : ∃ x, p.xs = [x] := List.length_eq_one_iff.1 hn
    have c21 : W.cell? ⟨N, 21, none⟩ = some (.slice p.xa 1 p.xc) := by rw [← hn]; exact cell_of_row _ _ 21 _ _ _ b1
    obtain ⟨hxs, g, o, hxa, hg, hrow⟩ := HP.out.xs.2 0 (by omega)
    have hx0 : p.xs[0] = x := by simp [hx]
    rw [hx0] at hxs hrow
    rw [hxa] at c21
    have H1 := Lib.hid (mBad_any h1 1 (by decide) false)
    have HK1 := Lib.hid (And.intro k1 (And.intro z1 r1))
    have HX := Lib.hid (And.intro hxs (And.intro hg (And.intro hrow (And.intro hxa (And.intro (show oneX p.xs = exL x from by rw [hx]; rfl) hn)))))
    clear h1 k1 z1 r1 b1 hx hx0 hxs hg hrow hxa hn
    go_wp2_with fail
    refine H1.out.mono ?_
    rintro en w2 ⟨rfl, s2, e2, h2, k2, z2, r2⟩
    replace k2 := HK1.out.1.trans k2
    replace r2 := HK1.out.2.2.seq r2
    have z2' : s2.size ≤ s.size := by have := HK1.out.2.1; omega
    have c1 : w2.cell? ⟨w0.heap.size, 1, none⟩ = some (.int .i64 e2) := cell_of_row _ _ 1 _ _ _ h2.1
    clear H1 HK1 c21 z2
    by_cases he : e2 = 0
    · subst he
      have c21 : w2.cell? ⟨N, 21, none⟩ = some (.slice (some ⟨g, o, none⟩) p.xs.length p.xc) := by rw [← HX.out.2.2.2.1]; exact cell_of_row _ _ 21 _ _ _ (k2.keep HB.out.2.2 HB.out.1)
      obtain ⟨d0, d1, d2, d3, d4, d5⟩ := ex_cells (fun j u hu => (h2.2.1.cell (p := ⟨g, o + 0 * 6 + j, none⟩) HX.out.2.1).trans (HX.out.2.2.1 j u hu))
      simp only [Nat.zero_mul, Nat.add_zero] at d0 d1 d2 d3 d4 d5
      have H2 := Lib.hid (mEx_any h2 x HX.out.1 (by have := HL.out; omega))
      have HK2 := Lib.hid (And.intro k2 (And.intro z2' r2))
      have hlen1 : p.xs.length = 1 := by
        exact HX.out.2.2.2.2.2
      rw [hlen1] at c21
      clear h2 k2 z2' r2 hlen1
      go_wp2_with fail
      refine H2.out.mono ?_
      rintro en w3 ⟨rfl, s3, e3, h3, k3, z3, r3⟩
      have HE := Lib.hid (show MkEnd w0.heap.size w0 w s e (oneX p.xs) 60000 (.returned (.tuple #[])) w3 from by
        refine ⟨rfl, s3, e3, h3, HB.out.2.1.trans (HK2.out.1.trans k3), by have := HK2.out.2.1; omega, ?_⟩
        have := HK2.out.2.2.seq r3
        rw [HX.out.2.2.2.2.1]
        simpa only [badL, cat_assoc, nil_cat, Bool.false_eq_true, if_false] using this)
      clear h3 k3 z3 r3 H2 HK2 c21 d0 d1 d2 d3 d4 d5 c1
      go_wp2_with fail
      go_end0
      exact HE.out
    · have he2 : (e2 == 0) = false := by simpa using he
      have he3 : decide (e2 = 0) = false := by simpa using he
      have HE := Lib.hid (show MkEnd w0.heap.size w0 w s e (oneX p.xs) 60000 (.returned (.tuple #[])) w2 from by
        refine ⟨rfl, s2, e2, h2, HB.out.2.1.trans k2, by omega, ?_⟩
        exact MkR.keep (x := []) (by simpa only [badL, cat_assoc, nil_cat, Bool.false_eq_true, if_false] using r2) he _)
      clear h2 k2 z2' r2
      go_wp2_with fail
      go_end0
      exact HE.out
  · have c21 : W.cell? ⟨N, 21, none⟩ = some (.slice p.xa p.xs.length p.xc) := cell_of_row _ _ 21 _ _ _ b1
    have hn2 : ((p.xs.length : Int) != 1) = true := by simp; omega
    have H1 := Lib.hid (mBad_any h1 1 (by decide) true)
    have HK1 := Lib.hid (And.intro k1 (And.intro z1 (And.intro r1 hn)))
    clear h1 k1 z1 r1 b1 hn
    go_wp2_with fail
    refine H1.out.mono ?_
    rintro en w2 ⟨rfl, s2, e2, h2, k2, z2, r2⟩
    replace k2 := HK1.out.1.trans k2
    replace r2 := HK1.out.2.2.1.seq r2
    have z2' : s2.size ≤ s.size := by have := HK1.out.2.1; omega
    rw [nil_cat] at r2
    have he : e2 ≠ 0 := r2.bad
    have c1 : w2.cell? ⟨w0.heap.size, 1, none⟩ = some (.int .i64 e2) := cell_of_row _ _ 1 _ _ _ h2.1
    have HE := Lib.hid (show MkEnd w0.heap.size w0 w s e (oneX p.xs) 60000 (.returned (.tuple #[])) w2 from by
      refine ⟨rfl, s2, e2, h2, HB.out.2.1.trans k2, by omega, ?_⟩
      rw [oneX_bad HK1.out.2.2.2]
      exact r2)
    have he2 : (e2 == 0) = false := by simpa using he
    have he3 : decide (e2 = 0) = false := by simpa using he
    clear h2 k2 z2' r2 H1 HK1 c21 z2 he
    go_wp2_with fail
    go_end0
    exact HE.out
theorem more_le {a b c q k : Nat} (h : a ≤ b + q) (h2 : b ≤ c + q * k) : a ≤ c + q * (k + 1) := by rw [Nat.mul_add, Nat.mul_one]; omega
def manyL (xs : List Exch) : Except Int (List UInt8) := if 64 < xs.length then .error 3 else cat (.ok (putL xs.length 1)) (exsL xs)
set_option maxHeartbeats 8000000 in
theorem mFld_l {w0 w : World} {s : ByteArray} {e : Int} (h : MkAt w0.heap.size w0 w s e) (p : Pkt) (hp : PktOk w0 p) (hl : s.size ≤ 97000000) :
    Calls Try.prog 34 #[.pointer (some ⟨w0.heap.size, 0, none⟩), .int .u8 108, .agg (pktA p)] w fun en w' => MkEnd w0.heap.size w0 w s e (manyL p.xs) (60000) en w' := by
  obtain ⟨N, hN⟩ : ∃ N, N = w.heap.size := ⟨_, rfl⟩
  obtain ⟨W, hW⟩ : ∃ W, W = w.alloc (.cells (pktA p) 35) := ⟨_, rfl⟩
  have hbA := ba (br w) (.cells (pktA p) 35)
  have hxA := heap_alloc_new w (.cells (pktA p) 35)
  rw [← hW] at hxA hbA
  rw [← hN] at hxA
  have h1 := h.below hbA
  have hne : N ≠ w0.heap.size := by have := h.lt; omega
  have HB := Lib.hid (And.intro hne (And.intro (Kept.of_below (S := fun b => b = w0.heap.size) hbA) hxA))
  have HL := Lib.hid hl
  have k1 : Kept (fun b => b = w0.heap.size) W W := .refl _ _
  have z1 : s.size ≤ s.size + 0 := Nat.le_refl _
  have r1 := MkR.refl s e
  have HP := Lib.hid hp
  clear hp
  clear hne hbA h hl hxA
  have hma : pktA p = #[.int .i64 p.kind, .int .i64 p.frm, .int .i64 p.dst, .int .u64 (p.ce : Int), .int .i64 p.cr, .int .i64 p.m.frm, .int .u32 (p.m.seq : Int), .int .u64 (p.m.stamp : Int), .int .i64 p.m.service, .slice p.m.da p.m.ds.length p.m.dc, .string p.m.pay, .int .u64 (p.stamp : Int), .int .u32 (p.sent : Int), .slice p.ga p.got.length p.gc, .int .u64 (p.hor : Int), .int .i64 p.whom, .int .u32 (p.seq : Int), .int .u64 (p.mem : Int), .int .u64 (p.pe : Int), .int .i64 p.pr, .int .u64 (p.epoch : Int), .slice p.xa p.xs.length p.xc] := rfl
  rw [hma] at hW ⊢
  go_enter Try.func34, Try.ntmps34
  go_upto_region 1 with (fail)
  rw [← hW, ← hN]
  clear hma hW hN
  obtain ⟨n, hn⟩ : ∃ n, n = p.xs.length := ⟨_, rfl⟩
  have hn5 : n ≤ 50000 := by rw [hn]; exact HP.out.xs.1
  obtain ⟨b, hb⟩ : ∃ b : Bool, b = decide (64 < n) := ⟨_, rfl⟩
  have hb2 : decide ((64 : Int) < (n : Int)) = b := by rw [hb, decide_eq_decide]; omega
  have hbs := hb.symm
  have H1 := Lib.hid (mBad_any h1 3 (by decide) b)
  have HK1 := Lib.hid (And.intro k1 (And.intro z1 r1))
  have HN := Lib.hid (And.intro hn hb)
  have HV := Lib.hid (show manyL p.xs = cat (cat (badL 3 b) (.ok (putL n 1))) (exsL p.xs) from by
    unfold badL manyL
    rw [hb, hn]
    by_cases h64 : 64 < p.xs.length
    · rw [if_pos h64, if_pos (by simpa using h64)]; rfl
    · rw [if_neg h64, if_neg (by simpa using h64), nil_cat])
  have b1 := k1.keep HB.out.2.2 HB.out.1
  have c21 : W.cell? ⟨N, 21, none⟩ = some (.slice p.xa n p.xc) := by rw [hn]; exact cell_of_row _ _ 21 _ _ _ b1
  have hw : IntKind.u64.wrap (n : Int) = (n : Int) := by rw [IntKind.wrap_u64]; omega
  clear h1 k1 z1 r1 b1 hn hb
  go_wp2_with fail
  refine H1.out.mono ?_
  rintro en w2 ⟨rfl, s2, e2, h2, k2, z2, r2⟩
  replace k2 := HK1.out.1.trans k2
  replace r2 := HK1.out.2.2.seq r2
  have z2' : s2.size ≤ s.size := by have := HK1.out.2.1; omega
  clear H1 HK1 c21 z2 hb2 hbs
  have c21 : w2.cell? ⟨N, 21, none⟩ = some (.slice p.xa n p.xc) := by rw [HN.out.1]; exact cell_of_row _ _ 21 _ _ _ (k2.keep HB.out.2.2 HB.out.1)
  have H2 := Lib.hid (mNum_any h2 n 1 (by have := HL.out; omega) (by omega) (by omega))
  have HK2 := Lib.hid (And.intro k2 (And.intro z2' r2))
  clear h2 k2 z2' r2
  go_wp2_with fail
  refine H2.out.mono ?_
  rintro en w3 ⟨rfl, s3, e3, h3, k3, z3, r3⟩
  have H3 := Lib.hid (And.intro h3 (And.intro (HK2.out.1.trans k3) (And.intro (show s3.size ≤ s.size + 1 by have := HK2.out.2.1; omega) (show MkR s e (cat (badL 3 b) (.ok (putL n 1))) s3 e3 from by have := HK2.out.2.2.seq r3; simpa only [cat_assoc, nil_cat] using this))))
  clear h3 k3 z3 r3 H2 HK2 hw c21
  obtain ⟨R, hR⟩ : ∃ R, R = cat (badL 3 b) (.ok (putL n 1)) := ⟨_, rfl⟩
  rw [← hR] at H3 HV
  have HR6 := Lib.hid (show ∀ x, R = .ok x → n ≤ 64 from by
    intro x hx
    rw [hR, HN.out.2] at hx
    by_cases h64 : 64 < n
    · rw [decide_eq_true h64] at hx; cases hx
    · omega)
  clear hR
  go_wp2_with fail
  go_loopw [6] (fun i wr => ∃ (k : Nat) (s' : ByteArray) (e' : Int), k ≤ n ∧ (k = 0 ∨ n ≤ 64) ∧ i = .int .i64 (k : Int) ∧ MkAt w0.heap.size w0 wr s' e' ∧ Kept (fun b => b = w0.heap.size) W wr ∧ s'.size ≤ s3.size + 276 * k ∧ MkR s3 e3 (exsL (p.xs.take k)) s' e') (fun i _ => n - (intOf i).toNat)
  case atStart => exact ⟨0, s3, e3, by omega, .inl rfl, rfl, H3.out.1, H3.out.2.1, by omega, .refl _ _⟩
  case round =>
    obtain ⟨k, s4, e4, hk, hk6, rfl, h4, k4, z4, r4⟩ := hrel
    have c1 : wr.cell? ⟨w0.heap.size, 1, none⟩ = some (.int .i64 e4) := cell_of_row _ _ 1 _ _ _ h4.1
    have c21 : wr.cell? ⟨N, 21, none⟩ = some (.slice p.xa n p.xc) := by rw [HN.out.1]; exact cell_of_row _ _ 21 _ _ _ (k4.keep HB.out.2.2 HB.out.1)
    by_cases hlt : k < n
    · have hbool : decide ((k : Int) < (n : Int)) = true := by simpa using hlt
      have hki : (k : Int) < (n : Int) := by omega
      by_cases he : e4 = 0
      · subst he
        have hkd : k < p.xs.length := by rw [← HN.out.1]; exact hlt
        obtain ⟨hxs, g, o, hxa, hg, hrow⟩ := HP.out.xs.2 k hkd
        have hsucc : exsL (p.xs.take (k + 1)) = cat (exsL (p.xs.take k)) (exL p.xs[k]) := by
          rw [List.take_succ_eq_append_getElem hkd, exsL_append]
          simp [exsL, cat_nil]
        have hk63 : n ≤ 64 := by
          obtain ⟨h5, _⟩ := r4.zero
          subst h5
          obtain ⟨_, x', h7⟩ := H3.out.2.2.2.zero
          exact HR6.out _ h7
        generalize p.xs[k] = x at *
        obtain ⟨d0, d1, d2, d3, d4, d5⟩ := ex_cells (fun j u hu => (h4.2.1.cell (p := ⟨g, o + k * 6 + j, none⟩) hg).trans (hrow j u hu))
        rw [hxa] at c21
        have H5 := Lib.hid (mEx_any h4 x hxs (by have := HL.out; have := H3.out.2.2.1; omega))
        have HX := Lib.hid (And.intro k4 (And.intro z4 (And.intro r4 (And.intro hsucc (And.intro hlt hk63)))))
        clear hsucc hlt h4 k4 z4 r4 hrow hxs hkd hxa hg hk63 hk hk6
        go_wp2_with fail
        refine H5.out.mono ?_
        rintro en w6 ⟨rfl, s6, e6, h6, k6, z6, r6⟩
        have HE := Lib.hid (And.intro h6 (And.intro (HX.out.1.trans k6) (And.intro (more_le z6 HX.out.2.1) (show MkR s3 e3 (exsL (p.xs.take (k + 1))) s6 e6 from by rw [HX.out.2.2.2.1]; exact HX.out.2.2.1.seq r6))))
        clear h6 k6 z6 r6 H5 d0 d1 d2 d3 d4 d5 c21 c1
        go_wp2_with fail
        exact ⟨⟨k + 1, s6, e6, HX.out.2.2.2.2.1, .inr HX.out.2.2.2.2.2, by go_num, HE.out⟩, measI HX.out.2.2.2.2.1⟩
      · have he2 : (e4 == 0) = false := by simpa using he
        have he3 : decide (e4 = 0) = false := by simpa using he
        have HE := Lib.hid (show MkEnd w0.heap.size w0 w s e (manyL p.xs) 60000 (.returned (.tuple #[])) wr from by
          rw [HV.out]
          refine ⟨rfl, s4, e4, h4, HB.out.2.1.trans k4, by have := H3.out.2.2.1; omega, ?_⟩
          have e1 : exsL p.xs = cat (exsL (p.xs.take k)) (exsL (p.xs.drop k)) := by rw [← exsL_append, List.take_append_drop]
          rw [e1]
          exact H3.out.2.2.2.seq (r4.stay he _))
        clear h4 k4 z4 r4
        go_wp2_with fail
        go_end0
        exact HE.out
    · have hbool : decide ((k : Int) < (n : Int)) = false := by simpa using hlt
      have HE := Lib.hid (show MkEnd w0.heap.size w0 w s e (manyL p.xs) 60000 (.returned (.tuple #[])) wr from by
        rw [HV.out]
        refine ⟨rfl, s4, e4, h4, HB.out.2.1.trans k4, by have := H3.out.2.2.1; omega, ?_⟩
        exact H3.out.2.2.2.seq (by rw [List.take_of_length_le (by rw [← HN.out.1]; omega)] at r4; exact r4))
      clear h4 k4 z4 r4
      go_wp2_with fail
      go_end0
      exact HE.out
/-- what a field is written as -/
def fieldL (f : Nat) (p : Pkt) : Except Int (List UInt8) :=
  if f = 99 then confL p.ce p.cr else if f = 109 then msgL p.m else if f = 115 then .ok (putL p.stamp 8) else if f = 110 then .ok (putL p.sent 4)
  else if f = 103 then vecL p.got else if f = 104 then .ok (putL p.hor 8) else if f = 119 then procL p.whom else if f = 113 then .ok (putL p.seq 4)
  else if f = 112 then confL p.pe p.pr else if f = 101 then .ok (putL p.epoch 8) else if f = 98 then .ok (putL p.mem 8) else if f = 120 then oneX p.xs
  else manyL p.xs
def fldK (f : Nat) (p : Pkt) : Nat := if f = 109 then 60000 + p.m.pay.size else 60000
theorem fldK_le {f : Nat} {p : Pkt} (h : f ≠ 109) : fldK f p = 60000 := if_neg h
theorem mFld_any {w0 w : World} {s : ByteArray} {e : Int} (h : MkAt w0.heap.size w0 w s e) (p : Pkt) (hp : PktOk w0 p) (f : Nat) (hf : f = 99 ∨ f = 109 ∨ f = 115 ∨ f = 110 ∨ f = 103 ∨ f = 104 ∨ f = 119 ∨ f = 113 ∨ f = 112 ∨ f = 101 ∨ f = 98 ∨ f = 120 ∨ f = 108) (hl : s.size ≤ 97000000) :
    Calls Try.prog 34 #[.pointer (some ⟨w0.heap.size, 0, none⟩), .int .u8 (f : Int), .agg (pktA p)] w fun en w' => MkEnd w0.heap.size w0 w s e (fieldL f p) (fldK f p) en w' := by
  unfold fieldL fldK
  rcases hf with e1 | e1 | e1 | e1 | e1 | e1 | e1 | e1 | e1 | e1 | e1 | e1 | e1 <;> subst e1 <;> simp only [reduceIte, Nat.reduceEqDiff, Int.cast_ofNat_Int]
  · exact mFld_c h p hp hl
  · exact mFld_m h p hp hl
  · exact mFld_s h p hp hl
  · exact mFld_n h p hp hl
  · exact mFld_g h p hp hl
  · exact mFld_h h p hp hl
  · exact mFld_w h p hp hl
  · exact mFld_q h p hp hl
  · exact mFld_p h p hp hl
  · exact mFld_e h p hp hl
  · exact mFld_b h p hp hl
  · exact mFld_x h p hp hl
  · exact mFld_l h p hp hl
end Go.Proofs.Ytgpojbmloielmaa
