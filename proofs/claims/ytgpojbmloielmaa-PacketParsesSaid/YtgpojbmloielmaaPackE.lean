/-
  What a body's writer writes of a packet of each kind, but of those that hold exchanges.
  Conditions: those that each theorem names.
-/
import Derived.Test.YtgpojbmloielmaaPackD
namespace Go.Proofs.Ytgpojbmloielmaa
set_option linter.unusedVariables false
set_option linter.unusedSimpArgs false
open Go.RowKit
/-- a packet's cells -/
structure Pkt where
  kind : Int
  frm : Int
  dst : Int
  ce : Nat
  cr : Int
  m : Msg
  stamp : Nat
  sent : Nat
  got : List Nat
  hor : Nat
  whom : Int
  seq : Nat
  mem : Nat
  pe : Nat
  pr : Int
  epoch : Nat
  xs : List Exch
  ga : Option Addr
  gc : Nat
  xa : Option Addr
  xc : Nat
def pktA (p : Pkt) : Array Value := #[.int .i64 p.kind, .int .i64 p.frm, .int .i64 p.dst, .int .u64 (p.ce : Int), .int .i64 p.cr, .int .i64 p.m.frm, .int .u32 (p.m.seq : Int), .int .u64 (p.m.stamp : Int), .int .i64 p.m.service, .slice p.m.da p.m.ds.length p.m.dc, .string p.m.pay, .int .u64 (p.stamp : Int), .int .u32 (p.sent : Int), .slice p.ga p.got.length p.gc, .int .u64 (p.hor : Int), .int .i64 p.whom, .int .u32 (p.seq : Int), .int .u64 (p.mem : Int), .int .u64 (p.pe : Int), .int .i64 p.pr, .int .u64 (p.epoch : Int), .slice p.xa p.xs.length p.xc]
/-- a list of exchanges that was there at the start -/
def ExsOk (w0 : World) (xa : Option Addr) (xs : List Exch) : Prop := xs.length ≤ 50000 ∧ ∀ i (h : i < xs.length), ExW w0 xs[i] ∧ ∃ g o, xa = some ⟨g, o, none⟩ ∧ g < w0.heap.size ∧ w0.rangeAt g (o + i * 6) (exA xs[i]).toList
structure PktOk (w0 : World) (p : Pkt) : Prop where
  ce : p.ce < 18446744073709551616
  m : MsgW w0 p.m
  stamp : p.stamp < 18446744073709551616
  sent : p.sent < 4294967296
  got : NumsOk w0 p.ga p.got
  hor : p.hor < 18446744073709551616
  seq : p.seq < 4294967296
  mem : p.mem < 18446744073709551616
  pe : p.pe < 18446744073709551616
  epoch : p.epoch < 18446744073709551616
  xs : ExsOk w0 p.xa p.xs
theorem msgL_len {m : Msg} {y : List UInt8} (h : msgL m = .ok y) : y.length ≤ 1296 := by
  unfold msgL at h
  split at h
  · cases h
  · split at h
    · cases h
    · obtain ⟨a, b, h1, h2, rfl⟩ := cat_ok h
      obtain ⟨c, d, h3, h4, rfl⟩ := cat_ok h2
      obtain ⟨e, f, h5, h6, rfl⟩ := cat_ok h4
      obtain ⟨g, i, h7, h8, rfl⟩ := cat_ok h6
      obtain ⟨j, k, h9, h10, rfl⟩ := cat_ok h8
      injection h1 with h1
      injection h3 with h3
      injection h5 with h5
      have := vecL_len h7
      injection h9 with h9
      injection h10 with h10
      rename_i hp
      have : m.pay.data.toList.length = m.pay.size := by simp
      simp only [List.length_append, ← h1, ← h3, ← h5, ← h9, ← h10, putL_length]
      omega
set_option maxHeartbeats 8000000 in
theorem wBody1_any {w0 w : World} {l : List UInt8} (h : WrAt w0.heap.size w0 w l) (p : Pkt) (hp : PktOk w0 p) (hkd : p.kind = 1) (hl : l.length ≤ 98000000) :
    Calls Try.prog 33 #[.pointer (some ⟨w0.heap.size, 0, none⟩), .agg (pktA p)] w fun e w' => WrEnd w0.heap.size w0 w l (cat (confL p.ce p.cr) (msgL p.m)) e w' := by
  obtain ⟨N, hN⟩ : ∃ N, N = w.heap.size := ⟨_, rfl⟩
  obtain ⟨W, hW⟩ : ∃ W, W = w.alloc (.cells (pktA p) 35) := ⟨_, rfl⟩
  have hbA := ba (br w) (.cells (pktA p) 35)
  have hxA := heap_alloc_new w (.cells (pktA p) 35)
  rw [← hW] at hxA hbA
  rw [← hN] at hxA
  have h1 := h.below hbA
  have hne : N ≠ w0.heap.size := by have := h.lt; omega
  have HB := Lib.hid (And.intro hne (And.intro (KeptT.of_below (B := w0.heap.size) hbA) hxA))
  have HL := Lib.hid hl
  obtain ⟨r, hr⟩ : ∃ r, r = cat (confL p.ce p.cr) (msgL p.m) := ⟨_, rfl⟩
  rw [← hr]
  have HP := Lib.hid hp
  have HKD := Lib.hid hkd
  clear hp hkd
  have HR := Lib.hid hr
  clear hr hne hbA h hl hxA
  have hma : pktA p = #[.int .i64 p.kind, .int .i64 p.frm, .int .i64 p.dst, .int .u64 (p.ce : Int), .int .i64 p.cr, .int .i64 p.m.frm, .int .u32 (p.m.seq : Int), .int .u64 (p.m.stamp : Int), .int .i64 p.m.service, .slice p.m.da p.m.ds.length p.m.dc, .string p.m.pay, .int .u64 (p.stamp : Int), .int .u32 (p.sent : Int), .slice p.ga p.got.length p.gc, .int .u64 (p.hor : Int), .int .i64 p.whom, .int .u32 (p.seq : Int), .int .u64 (p.mem : Int), .int .u64 (p.pe : Int), .int .i64 p.pr, .int .u64 (p.epoch : Int), .slice p.xa p.xs.length p.xc] := rfl
  rw [hma] at hW ⊢
  go_enter Try.func33, Try.ntmps33
  go_upto_region 1 with (fail)
  rw [← hW, ← hN]
  clear hma hW hN
  have k1 := KeptT.refl w0.heap.size W
  have b1 := k1.keep HB.out.2.2 HB.out.1 (by decide)
  have c3 : W.cell? ⟨N, 3, none⟩ = some (.int .u64 (p.ce : Int)) := cell_of_row _ _ 3 _ _ _ b1
  have c4 : W.cell? ⟨N, 4, none⟩ = some (.int .i64 p.cr) := cell_of_row _ _ 4 _ _ _ b1
  have H1 := Lib.hid (wConf_any h1 p.ce p.cr (by have := HL.out; (try simp only [List.length_append, putL_length]); omega) HP.out.ce)
  have HK1 := Lib.hid k1
  clear h1 k1 b1
  go_wp2_with fail
  refine H1.out.mono ?_
  intro e w2 h2
  rcases hr1 : confL p.ce p.cr with c | y1
  · rw [hr1] at h2
    obtain ⟨rfl, hb1⟩ := h2
    have HE := Lib.hid (wrErr (w := w) (l := l) (show r = .error c from by rw [HR.out, hr1] <;> rfl) hb1)
    clear hr1 hb1 H1
    exact bodyPost_pan rfl HE.out
  rw [hr1] at h2
  obtain ⟨rfl, h2, k2⟩ := h2
  have hy1 := confL_len hr1
  have E1 := Lib.hid hr1
  clear hr1
  replace k2 := HK1.out.trans k2
  clear c3 c4 H1 HK1
  have b2 := k2.keep HB.out.2.2 HB.out.1 (by decide)
  have c0 : w2.cell? ⟨N, 0, none⟩ = some (.int .i64 1) := by rw [← HKD.out]; exact cell_of_row _ _ 0 _ _ _ b2
  have c5 : w2.cell? ⟨N, 5, none⟩ = some (.int .i64 p.m.frm) := cell_of_row _ _ 5 _ _ _ b2
  have c6 : w2.cell? ⟨N, 6, none⟩ = some (.int .u32 (p.m.seq : Int)) := cell_of_row _ _ 6 _ _ _ b2
  have c7 : w2.cell? ⟨N, 7, none⟩ = some (.int .u64 (p.m.stamp : Int)) := cell_of_row _ _ 7 _ _ _ b2
  have c8 : w2.cell? ⟨N, 8, none⟩ = some (.int .i64 p.m.service) := cell_of_row _ _ 8 _ _ _ b2
  have c9 : w2.cell? ⟨N, 9, none⟩ = some (.slice p.m.da p.m.ds.length p.m.dc) := cell_of_row _ _ 9 _ _ _ b2
  have c10 : w2.cell? ⟨N, 10, none⟩ = some (.string p.m.pay) := cell_of_row _ _ 10 _ _ _ b2
  have H2 := Lib.hid (wMsg_any h2 p.m (by have := HL.out; (try simp only [List.length_append, putL_length]); omega) HP.out.m)
  have HK2 := Lib.hid k2
  clear h2 k2 b2
  go_wp2_with fail
  refine H2.out.mono ?_
  intro e w3 h3
  rcases hr2 : msgL p.m with c | y2
  · rw [hr2] at h3
    obtain ⟨rfl, hb2⟩ := h3
    have HE := Lib.hid (wrErr (w := w) (l := l) (show r = .error c from by rw [HR.out, E1.out, hr2] <;> rfl) hb2)
    clear hr2 hb2 H2
    exact bodyPost_pan rfl HE.out
  rw [hr2] at h3
  obtain ⟨rfl, h3, k3⟩ := h3
  have hy2 := msgL_len hr2
  have E2 := Lib.hid hr2
  clear hr2
  replace k3 := HK2.out.trans k3
  clear c0 c5 c6 c7 c8 c9 c10 H2 HK2
  have HE := Lib.hid (show WrEnd w0.heap.size w0 w l r (.returned (.tuple #[])) w3 from by
    rw [show r = .ok (y1 ++ (y2)) from by rw [HR.out, E1.out, E2.out] <;> rfl]
    exact ⟨rfl, by simpa only [List.append_assoc] using h3, HB.out.2.1.trans k3⟩)
  clear h3 k3
  go_wp2_with fail
  go_end0
  exact HE.out
set_option maxHeartbeats 8000000 in
theorem wBody2_any {w0 w : World} {l : List UInt8} (h : WrAt w0.heap.size w0 w l) (p : Pkt) (hp : PktOk w0 p) (hkd : p.kind = 2) (hl : l.length ≤ 98000000) :
    Calls Try.prog 33 #[.pointer (some ⟨w0.heap.size, 0, none⟩), .agg (pktA p)] w fun e w' => WrEnd w0.heap.size w0 w l (cat (confL p.ce p.cr) (cat (.ok (putL p.stamp 8)) (cat (.ok (putL p.sent 4)) (cat (vecL p.got) ((.ok (putL p.hor 8))))))) e w' := by
  obtain ⟨N, hN⟩ : ∃ N, N = w.heap.size := ⟨_, rfl⟩
  obtain ⟨W, hW⟩ : ∃ W, W = w.alloc (.cells (pktA p) 35) := ⟨_, rfl⟩
  have hbA := ba (br w) (.cells (pktA p) 35)
  have hxA := heap_alloc_new w (.cells (pktA p) 35)
  rw [← hW] at hxA hbA
  rw [← hN] at hxA
  have h1 := h.below hbA
  have hne : N ≠ w0.heap.size := by have := h.lt; omega
  have HB := Lib.hid (And.intro hne (And.intro (KeptT.of_below (B := w0.heap.size) hbA) hxA))
  have HL := Lib.hid hl
  obtain ⟨r, hr⟩ : ∃ r, r = cat (confL p.ce p.cr) (cat (.ok (putL p.stamp 8)) (cat (.ok (putL p.sent 4)) (cat (vecL p.got) ((.ok (putL p.hor 8)))))) := ⟨_, rfl⟩
  rw [← hr]
  have HP := Lib.hid hp
  have HKD := Lib.hid hkd
  clear hp hkd
  have hw_sent : IntKind.u64.wrap (p.sent : Int) = (p.sent : Int) := by rw [IntKind.wrap_u64]; have := HP.out.sent; omega
  have HR := Lib.hid hr
  clear hr hne hbA h hl hxA
  have hma : pktA p = #[.int .i64 p.kind, .int .i64 p.frm, .int .i64 p.dst, .int .u64 (p.ce : Int), .int .i64 p.cr, .int .i64 p.m.frm, .int .u32 (p.m.seq : Int), .int .u64 (p.m.stamp : Int), .int .i64 p.m.service, .slice p.m.da p.m.ds.length p.m.dc, .string p.m.pay, .int .u64 (p.stamp : Int), .int .u32 (p.sent : Int), .slice p.ga p.got.length p.gc, .int .u64 (p.hor : Int), .int .i64 p.whom, .int .u32 (p.seq : Int), .int .u64 (p.mem : Int), .int .u64 (p.pe : Int), .int .i64 p.pr, .int .u64 (p.epoch : Int), .slice p.xa p.xs.length p.xc] := rfl
  rw [hma] at hW ⊢
  go_enter Try.func33, Try.ntmps33
  go_upto_region 1 with (fail)
  rw [← hW, ← hN]
  clear hma hW hN
  have k1 := KeptT.refl w0.heap.size W
  have b1 := k1.keep HB.out.2.2 HB.out.1 (by decide)
  have c3 : W.cell? ⟨N, 3, none⟩ = some (.int .u64 (p.ce : Int)) := cell_of_row _ _ 3 _ _ _ b1
  have c4 : W.cell? ⟨N, 4, none⟩ = some (.int .i64 p.cr) := cell_of_row _ _ 4 _ _ _ b1
  have H1 := Lib.hid (wConf_any h1 p.ce p.cr (by have := HL.out; (try simp only [List.length_append, putL_length]); omega) HP.out.ce)
  have HK1 := Lib.hid k1
  clear h1 k1 b1
  go_wp2_with fail
  refine H1.out.mono ?_
  intro e w2 h2
  rcases hr1 : confL p.ce p.cr with c | y1
  · rw [hr1] at h2
    obtain ⟨rfl, hb1⟩ := h2
    have HE := Lib.hid (wrErr (w := w) (l := l) (show r = .error c from by rw [HR.out, hr1] <;> rfl) hb1)
    clear hr1 hb1 H1
    exact bodyPost_pan rfl HE.out
  rw [hr1] at h2
  obtain ⟨rfl, h2, k2⟩ := h2
  have hy1 := confL_len hr1
  have E1 := Lib.hid hr1
  clear hr1
  replace k2 := HK1.out.trans k2
  clear c3 c4 H1 HK1
  have b2 := k2.keep HB.out.2.2 HB.out.1 (by decide)
  have c0 : w2.cell? ⟨N, 0, none⟩ = some (.int .i64 2) := by rw [← HKD.out]; exact cell_of_row _ _ 0 _ _ _ b2
  have c11 : w2.cell? ⟨N, 11, none⟩ = some (.int .u64 (p.stamp : Int)) := cell_of_row _ _ 11 _ _ _ b2
  have H2 := Lib.hid (wNum_any h2 p.stamp 8 (by have := HL.out; (try simp only [List.length_append, putL_length]); omega) HP.out.stamp (by omega) (by omega))
  have HK2 := Lib.hid k2
  clear h2 k2 b2
  go_wp2_with fail
  refine H2.out.mono ?_
  rintro e w3 ⟨rfl, h3, k3⟩
  replace k3 := HK2.out.trans k3
  clear c0 c11 H2 HK2
  have b3 := k3.keep HB.out.2.2 HB.out.1 (by decide)
  have c12 : w3.cell? ⟨N, 12, none⟩ = some (.int .u32 (p.sent : Int)) := cell_of_row _ _ 12 _ _ _ b3
  have H3 := Lib.hid (wNum_any h3 p.sent 4 (by have := HL.out; (try simp only [List.length_append, putL_length]); omega) (by have := HP.out.sent; omega) (by omega) (by omega))
  have HK3 := Lib.hid k3
  clear h3 k3 b3
  go_wp2_with fail
  refine H3.out.mono ?_
  rintro e w4 ⟨rfl, h4, k4⟩
  replace k4 := HK3.out.trans k4
  clear c12 H3 HK3
  have b4 := k4.keep HB.out.2.2 HB.out.1 (by decide)
  have c13 : w4.cell? ⟨N, 13, none⟩ = some (.slice p.ga p.got.length p.gc) := cell_of_row _ _ 13 _ _ _ b4
  have H4 := Lib.hid (wVec_any h4 p.ga p.gc p.got (by have := HL.out; (try simp only [List.length_append, putL_length]); omega) HP.out.got)
  have HK4 := Lib.hid k4
  clear h4 k4 b4
  go_wp2_with fail
  refine H4.out.mono ?_
  intro e w5 h5
  rcases hr4 : vecL p.got with c | y4
  · rw [hr4] at h5
    obtain ⟨rfl, hb4⟩ := h5
    have HE := Lib.hid (wrErr (w := w) (l := l) (show r = .error c from by rw [HR.out, E1.out, hr4] <;> rfl) hb4)
    clear hr4 hb4 H4
    exact bodyPost_pan rfl HE.out
  rw [hr4] at h5
  obtain ⟨rfl, h5, k5⟩ := h5
  have hy4 := vecL_len hr4
  have E4 := Lib.hid hr4
  clear hr4
  replace k5 := HK4.out.trans k5
  clear c13 H4 HK4
  have b5 := k5.keep HB.out.2.2 HB.out.1 (by decide)
  have c14 : w5.cell? ⟨N, 14, none⟩ = some (.int .u64 (p.hor : Int)) := cell_of_row _ _ 14 _ _ _ b5
  have H5 := Lib.hid (wNum_any h5 p.hor 8 (by have := HL.out; (try simp only [List.length_append, putL_length]); omega) HP.out.hor (by omega) (by omega))
  have HK5 := Lib.hid k5
  clear h5 k5 b5
  go_wp2_with fail
  refine H5.out.mono ?_
  rintro e w6 ⟨rfl, h6, k6⟩
  replace k6 := HK5.out.trans k6
  clear c14 H5 HK5
  have HE := Lib.hid (show WrEnd w0.heap.size w0 w l r (.returned (.tuple #[])) w6 from by
    rw [show r = .ok (y1 ++ (putL p.stamp 8 ++ (putL p.sent 4 ++ (y4 ++ (putL p.hor 8))))) from by rw [HR.out, E1.out, E4.out] <;> rfl]
    exact ⟨rfl, by simpa only [List.append_assoc] using h6, HB.out.2.1.trans k6⟩)
  clear h6 k6
  go_wp2_with fail
  go_end0
  exact HE.out
set_option maxHeartbeats 8000000 in
theorem wBody3_any {w0 w : World} {l : List UInt8} (h : WrAt w0.heap.size w0 w l) (p : Pkt) (hp : PktOk w0 p) (hkd : p.kind = 3) (hl : l.length ≤ 98000000) :
    Calls Try.prog 33 #[.pointer (some ⟨w0.heap.size, 0, none⟩), .agg (pktA p)] w fun e w' => WrEnd w0.heap.size w0 w l (cat (confL p.ce p.cr) (cat (procL p.whom) ((.ok (putL p.seq 4))))) e w' := by
  obtain ⟨N, hN⟩ : ∃ N, N = w.heap.size := ⟨_, rfl⟩
  obtain ⟨W, hW⟩ : ∃ W, W = w.alloc (.cells (pktA p) 35) := ⟨_, rfl⟩
  have hbA := ba (br w) (.cells (pktA p) 35)
  have hxA := heap_alloc_new w (.cells (pktA p) 35)
  rw [← hW] at hxA hbA
  rw [← hN] at hxA
  have h1 := h.below hbA
  have hne : N ≠ w0.heap.size := by have := h.lt; omega
  have HB := Lib.hid (And.intro hne (And.intro (KeptT.of_below (B := w0.heap.size) hbA) hxA))
  have HL := Lib.hid hl
  obtain ⟨r, hr⟩ : ∃ r, r = cat (confL p.ce p.cr) (cat (procL p.whom) ((.ok (putL p.seq 4)))) := ⟨_, rfl⟩
  rw [← hr]
  have HP := Lib.hid hp
  have HKD := Lib.hid hkd
  clear hp hkd
  have hw_seq : IntKind.u64.wrap (p.seq : Int) = (p.seq : Int) := by rw [IntKind.wrap_u64]; have := HP.out.seq; omega
  have HR := Lib.hid hr
  clear hr hne hbA h hl hxA
  have hma : pktA p = #[.int .i64 p.kind, .int .i64 p.frm, .int .i64 p.dst, .int .u64 (p.ce : Int), .int .i64 p.cr, .int .i64 p.m.frm, .int .u32 (p.m.seq : Int), .int .u64 (p.m.stamp : Int), .int .i64 p.m.service, .slice p.m.da p.m.ds.length p.m.dc, .string p.m.pay, .int .u64 (p.stamp : Int), .int .u32 (p.sent : Int), .slice p.ga p.got.length p.gc, .int .u64 (p.hor : Int), .int .i64 p.whom, .int .u32 (p.seq : Int), .int .u64 (p.mem : Int), .int .u64 (p.pe : Int), .int .i64 p.pr, .int .u64 (p.epoch : Int), .slice p.xa p.xs.length p.xc] := rfl
  rw [hma] at hW ⊢
  go_enter Try.func33, Try.ntmps33
  go_upto_region 1 with (fail)
  rw [← hW, ← hN]
  clear hma hW hN
  have k1 := KeptT.refl w0.heap.size W
  have b1 := k1.keep HB.out.2.2 HB.out.1 (by decide)
  have c3 : W.cell? ⟨N, 3, none⟩ = some (.int .u64 (p.ce : Int)) := cell_of_row _ _ 3 _ _ _ b1
  have c4 : W.cell? ⟨N, 4, none⟩ = some (.int .i64 p.cr) := cell_of_row _ _ 4 _ _ _ b1
  have H1 := Lib.hid (wConf_any h1 p.ce p.cr (by have := HL.out; (try simp only [List.length_append, putL_length]); omega) HP.out.ce)
  have HK1 := Lib.hid k1
  clear h1 k1 b1
  go_wp2_with fail
  refine H1.out.mono ?_
  intro e w2 h2
  rcases hr1 : confL p.ce p.cr with c | y1
  · rw [hr1] at h2
    obtain ⟨rfl, hb1⟩ := h2
    have HE := Lib.hid (wrErr (w := w) (l := l) (show r = .error c from by rw [HR.out, hr1] <;> rfl) hb1)
    clear hr1 hb1 H1
    exact bodyPost_pan rfl HE.out
  rw [hr1] at h2
  obtain ⟨rfl, h2, k2⟩ := h2
  have hy1 := confL_len hr1
  have E1 := Lib.hid hr1
  clear hr1
  replace k2 := HK1.out.trans k2
  clear c3 c4 H1 HK1
  have b2 := k2.keep HB.out.2.2 HB.out.1 (by decide)
  have c0 : w2.cell? ⟨N, 0, none⟩ = some (.int .i64 3) := by rw [← HKD.out]; exact cell_of_row _ _ 0 _ _ _ b2
  have c15 : w2.cell? ⟨N, 15, none⟩ = some (.int .i64 p.whom) := cell_of_row _ _ 15 _ _ _ b2
  have H2 := Lib.hid (wProc_any h2 p.whom (by have := HL.out; (try simp only [List.length_append, putL_length]); omega))
  have HK2 := Lib.hid k2
  clear h2 k2 b2
  go_wp2_with fail
  refine H2.out.mono ?_
  intro e w3 h3
  rcases hr2 : procL p.whom with c | y2
  · rw [hr2] at h3
    obtain ⟨rfl, hb2⟩ := h3
    have HE := Lib.hid (wrErr (w := w) (l := l) (show r = .error c from by rw [HR.out, E1.out, hr2] <;> rfl) hb2)
    clear hr2 hb2 H2
    exact bodyPost_pan rfl HE.out
  rw [hr2] at h3
  obtain ⟨rfl, h3, k3⟩ := h3
  have hy2 := procL_len hr2
  have E2 := Lib.hid hr2
  clear hr2
  replace k3 := HK2.out.trans k3
  clear c0 c15 H2 HK2
  have b3 := k3.keep HB.out.2.2 HB.out.1 (by decide)
  have c16 : w3.cell? ⟨N, 16, none⟩ = some (.int .u32 (p.seq : Int)) := cell_of_row _ _ 16 _ _ _ b3
  have H3 := Lib.hid (wNum_any h3 p.seq 4 (by have := HL.out; (try simp only [List.length_append, putL_length]); omega) (by have := HP.out.seq; omega) (by omega) (by omega))
  have HK3 := Lib.hid k3
  clear h3 k3 b3
  go_wp2_with fail
  refine H3.out.mono ?_
  rintro e w4 ⟨rfl, h4, k4⟩
  replace k4 := HK3.out.trans k4
  clear c16 H3 HK3
  have HE := Lib.hid (show WrEnd w0.heap.size w0 w l r (.returned (.tuple #[])) w4 from by
    rw [show r = .ok (y1 ++ (y2 ++ (putL p.seq 4))) from by rw [HR.out, E1.out, E2.out] <;> rfl]
    exact ⟨rfl, by simpa only [List.append_assoc] using h4, HB.out.2.1.trans k4⟩)
  clear h4 k4
  go_wp2_with fail
  go_end0
  exact HE.out
set_option maxHeartbeats 8000000 in
theorem wBody4_any {w0 w : World} {l : List UInt8} (h : WrAt w0.heap.size w0 w l) (p : Pkt) (hp : PktOk w0 p) (hkd : p.kind = 4) (hl : l.length ≤ 98000000) :
    Calls Try.prog 33 #[.pointer (some ⟨w0.heap.size, 0, none⟩), .agg (pktA p)] w fun e w' => WrEnd w0.heap.size w0 w l (cat (confL p.ce p.cr) (cat (confL p.pe p.pr) (cat (.ok (putL p.epoch 8)) ((.ok (putL p.mem 8)))))) e w' := by
  obtain ⟨N, hN⟩ : ∃ N, N = w.heap.size := ⟨_, rfl⟩
  obtain ⟨W, hW⟩ : ∃ W, W = w.alloc (.cells (pktA p) 35) := ⟨_, rfl⟩
  have hbA := ba (br w) (.cells (pktA p) 35)
  have hxA := heap_alloc_new w (.cells (pktA p) 35)
  rw [← hW] at hxA hbA
  rw [← hN] at hxA
  have h1 := h.below hbA
  have hne : N ≠ w0.heap.size := by have := h.lt; omega
  have HB := Lib.hid (And.intro hne (And.intro (KeptT.of_below (B := w0.heap.size) hbA) hxA))
  have HL := Lib.hid hl
  obtain ⟨r, hr⟩ : ∃ r, r = cat (confL p.ce p.cr) (cat (confL p.pe p.pr) (cat (.ok (putL p.epoch 8)) ((.ok (putL p.mem 8))))) := ⟨_, rfl⟩
  rw [← hr]
  have HP := Lib.hid hp
  have HKD := Lib.hid hkd
  clear hp hkd
  have HR := Lib.hid hr
  clear hr hne hbA h hl hxA
  have hma : pktA p = #[.int .i64 p.kind, .int .i64 p.frm, .int .i64 p.dst, .int .u64 (p.ce : Int), .int .i64 p.cr, .int .i64 p.m.frm, .int .u32 (p.m.seq : Int), .int .u64 (p.m.stamp : Int), .int .i64 p.m.service, .slice p.m.da p.m.ds.length p.m.dc, .string p.m.pay, .int .u64 (p.stamp : Int), .int .u32 (p.sent : Int), .slice p.ga p.got.length p.gc, .int .u64 (p.hor : Int), .int .i64 p.whom, .int .u32 (p.seq : Int), .int .u64 (p.mem : Int), .int .u64 (p.pe : Int), .int .i64 p.pr, .int .u64 (p.epoch : Int), .slice p.xa p.xs.length p.xc] := rfl
  rw [hma] at hW ⊢
  go_enter Try.func33, Try.ntmps33
  go_upto_region 1 with (fail)
  rw [← hW, ← hN]
  clear hma hW hN
  have k1 := KeptT.refl w0.heap.size W
  have b1 := k1.keep HB.out.2.2 HB.out.1 (by decide)
  have c3 : W.cell? ⟨N, 3, none⟩ = some (.int .u64 (p.ce : Int)) := cell_of_row _ _ 3 _ _ _ b1
  have c4 : W.cell? ⟨N, 4, none⟩ = some (.int .i64 p.cr) := cell_of_row _ _ 4 _ _ _ b1
  have H1 := Lib.hid (wConf_any h1 p.ce p.cr (by have := HL.out; (try simp only [List.length_append, putL_length]); omega) HP.out.ce)
  have HK1 := Lib.hid k1
  clear h1 k1 b1
  go_wp2_with fail
  refine H1.out.mono ?_
  intro e w2 h2
  rcases hr1 : confL p.ce p.cr with c | y1
  · rw [hr1] at h2
    obtain ⟨rfl, hb1⟩ := h2
    have HE := Lib.hid (wrErr (w := w) (l := l) (show r = .error c from by rw [HR.out, hr1] <;> rfl) hb1)
    clear hr1 hb1 H1
    exact bodyPost_pan rfl HE.out
  rw [hr1] at h2
  obtain ⟨rfl, h2, k2⟩ := h2
  have hy1 := confL_len hr1
  have E1 := Lib.hid hr1
  clear hr1
  replace k2 := HK1.out.trans k2
  clear c3 c4 H1 HK1
  have b2 := k2.keep HB.out.2.2 HB.out.1 (by decide)
  have c0 : w2.cell? ⟨N, 0, none⟩ = some (.int .i64 4) := by rw [← HKD.out]; exact cell_of_row _ _ 0 _ _ _ b2
  have c18 : w2.cell? ⟨N, 18, none⟩ = some (.int .u64 (p.pe : Int)) := cell_of_row _ _ 18 _ _ _ b2
  have c19 : w2.cell? ⟨N, 19, none⟩ = some (.int .i64 p.pr) := cell_of_row _ _ 19 _ _ _ b2
  have H2 := Lib.hid (wConf_any h2 p.pe p.pr (by have := HL.out; (try simp only [List.length_append, putL_length]); omega) HP.out.pe)
  have HK2 := Lib.hid k2
  clear h2 k2 b2
  go_wp2_with fail
  refine H2.out.mono ?_
  intro e w3 h3
  rcases hr2 : confL p.pe p.pr with c | y2
  · rw [hr2] at h3
    obtain ⟨rfl, hb2⟩ := h3
    have HE := Lib.hid (wrErr (w := w) (l := l) (show r = .error c from by rw [HR.out, E1.out, hr2] <;> rfl) hb2)
    clear hr2 hb2 H2
    exact bodyPost_pan rfl HE.out
  rw [hr2] at h3
  obtain ⟨rfl, h3, k3⟩ := h3
  have hy2 := confL_len hr2
  have E2 := Lib.hid hr2
  clear hr2
  replace k3 := HK2.out.trans k3
  clear c0 c18 c19 H2 HK2
  have b3 := k3.keep HB.out.2.2 HB.out.1 (by decide)
  have c20 : w3.cell? ⟨N, 20, none⟩ = some (.int .u64 (p.epoch : Int)) := cell_of_row _ _ 20 _ _ _ b3
  have H3 := Lib.hid (wNum_any h3 p.epoch 8 (by have := HL.out; (try simp only [List.length_append, putL_length]); omega) HP.out.epoch (by omega) (by omega))
  have HK3 := Lib.hid k3
  clear h3 k3 b3
  go_wp2_with fail
  refine H3.out.mono ?_
  rintro e w4 ⟨rfl, h4, k4⟩
  replace k4 := HK3.out.trans k4
  clear c20 H3 HK3
  have b4 := k4.keep HB.out.2.2 HB.out.1 (by decide)
  have c17 : w4.cell? ⟨N, 17, none⟩ = some (.int .u64 (p.mem : Int)) := cell_of_row _ _ 17 _ _ _ b4
  have H4 := Lib.hid (wNum_any h4 p.mem 8 (by have := HL.out; (try simp only [List.length_append, putL_length]); omega) HP.out.mem (by omega) (by omega))
  have HK4 := Lib.hid k4
  clear h4 k4 b4
  go_wp2_with fail
  refine H4.out.mono ?_
  rintro e w5 ⟨rfl, h5, k5⟩
  replace k5 := HK4.out.trans k5
  clear c17 H4 HK4
  have HE := Lib.hid (show WrEnd w0.heap.size w0 w l r (.returned (.tuple #[])) w5 from by
    rw [show r = .ok (y1 ++ (y2 ++ (putL p.epoch 8 ++ (putL p.mem 8)))) from by rw [HR.out, E1.out, E2.out] <;> rfl]
    exact ⟨rfl, by simpa only [List.append_assoc] using h5, HB.out.2.1.trans k5⟩)
  clear h5 k5
  go_wp2_with fail
  go_end0
  exact HE.out
set_option maxHeartbeats 8000000 in
theorem wBody5_any {w0 w : World} {l : List UInt8} (h : WrAt w0.heap.size w0 w l) (p : Pkt) (hp : PktOk w0 p) (hkd : p.kind = 5) (hl : l.length ≤ 98000000) :
    Calls Try.prog 33 #[.pointer (some ⟨w0.heap.size, 0, none⟩), .agg (pktA p)] w fun e w' => WrEnd w0.heap.size w0 w l (cat (confL p.ce p.cr) ((.ok (putL p.mem 8)))) e w' := by
  obtain ⟨N, hN⟩ : ∃ N, N = w.heap.size := ⟨_, rfl⟩
  obtain ⟨W, hW⟩ : ∃ W, W = w.alloc (.cells (pktA p) 35) := ⟨_, rfl⟩
  have hbA := ba (br w) (.cells (pktA p) 35)
  have hxA := heap_alloc_new w (.cells (pktA p) 35)
  rw [← hW] at hxA hbA
  rw [← hN] at hxA
  have h1 := h.below hbA
  have hne : N ≠ w0.heap.size := by have := h.lt; omega
  have HB := Lib.hid (And.intro hne (And.intro (KeptT.of_below (B := w0.heap.size) hbA) hxA))
  have HL := Lib.hid hl
  obtain ⟨r, hr⟩ : ∃ r, r = cat (confL p.ce p.cr) ((.ok (putL p.mem 8))) := ⟨_, rfl⟩
  rw [← hr]
  have HP := Lib.hid hp
  have HKD := Lib.hid hkd
  clear hp hkd
  have HR := Lib.hid hr
  clear hr hne hbA h hl hxA
  have hma : pktA p = #[.int .i64 p.kind, .int .i64 p.frm, .int .i64 p.dst, .int .u64 (p.ce : Int), .int .i64 p.cr, .int .i64 p.m.frm, .int .u32 (p.m.seq : Int), .int .u64 (p.m.stamp : Int), .int .i64 p.m.service, .slice p.m.da p.m.ds.length p.m.dc, .string p.m.pay, .int .u64 (p.stamp : Int), .int .u32 (p.sent : Int), .slice p.ga p.got.length p.gc, .int .u64 (p.hor : Int), .int .i64 p.whom, .int .u32 (p.seq : Int), .int .u64 (p.mem : Int), .int .u64 (p.pe : Int), .int .i64 p.pr, .int .u64 (p.epoch : Int), .slice p.xa p.xs.length p.xc] := rfl
  rw [hma] at hW ⊢
  go_enter Try.func33, Try.ntmps33
  go_upto_region 1 with (fail)
  rw [← hW, ← hN]
  clear hma hW hN
  have k1 := KeptT.refl w0.heap.size W
  have b1 := k1.keep HB.out.2.2 HB.out.1 (by decide)
  have c3 : W.cell? ⟨N, 3, none⟩ = some (.int .u64 (p.ce : Int)) := cell_of_row _ _ 3 _ _ _ b1
  have c4 : W.cell? ⟨N, 4, none⟩ = some (.int .i64 p.cr) := cell_of_row _ _ 4 _ _ _ b1
  have H1 := Lib.hid (wConf_any h1 p.ce p.cr (by have := HL.out; (try simp only [List.length_append, putL_length]); omega) HP.out.ce)
  have HK1 := Lib.hid k1
  clear h1 k1 b1
  go_wp2_with fail
  refine H1.out.mono ?_
  intro e w2 h2
  rcases hr1 : confL p.ce p.cr with c | y1
  · rw [hr1] at h2
    obtain ⟨rfl, hb1⟩ := h2
    have HE := Lib.hid (wrErr (w := w) (l := l) (show r = .error c from by rw [HR.out, hr1] <;> rfl) hb1)
    clear hr1 hb1 H1
    exact bodyPost_pan rfl HE.out
  rw [hr1] at h2
  obtain ⟨rfl, h2, k2⟩ := h2
  have hy1 := confL_len hr1
  have E1 := Lib.hid hr1
  clear hr1
  replace k2 := HK1.out.trans k2
  clear c3 c4 H1 HK1
  have b2 := k2.keep HB.out.2.2 HB.out.1 (by decide)
  have c0 : w2.cell? ⟨N, 0, none⟩ = some (.int .i64 5) := by rw [← HKD.out]; exact cell_of_row _ _ 0 _ _ _ b2
  have c17 : w2.cell? ⟨N, 17, none⟩ = some (.int .u64 (p.mem : Int)) := cell_of_row _ _ 17 _ _ _ b2
  have H2 := Lib.hid (wNum_any h2 p.mem 8 (by have := HL.out; (try simp only [List.length_append, putL_length]); omega) HP.out.mem (by omega) (by omega))
  have HK2 := Lib.hid k2
  clear h2 k2 b2
  go_wp2_with fail
  refine H2.out.mono ?_
  rintro e w3 ⟨rfl, h3, k3⟩
  replace k3 := HK2.out.trans k3
  clear c0 c17 H2 HK2
  have HE := Lib.hid (show WrEnd w0.heap.size w0 w l r (.returned (.tuple #[])) w3 from by
    rw [show r = .ok (y1 ++ (putL p.mem 8)) from by rw [HR.out, E1.out] <;> rfl]
    exact ⟨rfl, by simpa only [List.append_assoc] using h3, HB.out.2.1.trans k3⟩)
  clear h3 k3
  go_wp2_with fail
  go_end0
  exact HE.out
set_option maxHeartbeats 8000000 in
theorem wBody8_any {w0 w : World} {l : List UInt8} (h : WrAt w0.heap.size w0 w l) (p : Pkt) (hp : PktOk w0 p) (hkd : p.kind = 8) (hl : l.length ≤ 98000000) :
    Calls Try.prog 33 #[.pointer (some ⟨w0.heap.size, 0, none⟩), .agg (pktA p)] w fun e w' => WrEnd w0.heap.size w0 w l (cat (confL p.ce p.cr) (cat (procL p.whom) ((.ok (putL p.seq 4))))) e w' := by
  obtain ⟨N, hN⟩ : ∃ N, N = w.heap.size := ⟨_, rfl⟩
  obtain ⟨W, hW⟩ : ∃ W, W = w.alloc (.cells (pktA p) 35) := ⟨_, rfl⟩
  have hbA := ba (br w) (.cells (pktA p) 35)
  have hxA := heap_alloc_new w (.cells (pktA p) 35)
  rw [← hW] at hxA hbA
  rw [← hN] at hxA
  have h1 := h.below hbA
  have hne : N ≠ w0.heap.size := by have := h.lt; omega
  have HB := Lib.hid (And.intro hne (And.intro (KeptT.of_below (B := w0.heap.size) hbA) hxA))
  have HL := Lib.hid hl
  obtain ⟨r, hr⟩ : ∃ r, r = cat (confL p.ce p.cr) (cat (procL p.whom) ((.ok (putL p.seq 4)))) := ⟨_, rfl⟩
  rw [← hr]
  have HP := Lib.hid hp
  have HKD := Lib.hid hkd
  clear hp hkd
  have hw_seq : IntKind.u64.wrap (p.seq : Int) = (p.seq : Int) := by rw [IntKind.wrap_u64]; have := HP.out.seq; omega
  have HR := Lib.hid hr
  clear hr hne hbA h hl hxA
  have hma : pktA p = #[.int .i64 p.kind, .int .i64 p.frm, .int .i64 p.dst, .int .u64 (p.ce : Int), .int .i64 p.cr, .int .i64 p.m.frm, .int .u32 (p.m.seq : Int), .int .u64 (p.m.stamp : Int), .int .i64 p.m.service, .slice p.m.da p.m.ds.length p.m.dc, .string p.m.pay, .int .u64 (p.stamp : Int), .int .u32 (p.sent : Int), .slice p.ga p.got.length p.gc, .int .u64 (p.hor : Int), .int .i64 p.whom, .int .u32 (p.seq : Int), .int .u64 (p.mem : Int), .int .u64 (p.pe : Int), .int .i64 p.pr, .int .u64 (p.epoch : Int), .slice p.xa p.xs.length p.xc] := rfl
  rw [hma] at hW ⊢
  go_enter Try.func33, Try.ntmps33
  go_upto_region 1 with (fail)
  rw [← hW, ← hN]
  clear hma hW hN
  have k1 := KeptT.refl w0.heap.size W
  have b1 := k1.keep HB.out.2.2 HB.out.1 (by decide)
  have c3 : W.cell? ⟨N, 3, none⟩ = some (.int .u64 (p.ce : Int)) := cell_of_row _ _ 3 _ _ _ b1
  have c4 : W.cell? ⟨N, 4, none⟩ = some (.int .i64 p.cr) := cell_of_row _ _ 4 _ _ _ b1
  have H1 := Lib.hid (wConf_any h1 p.ce p.cr (by have := HL.out; (try simp only [List.length_append, putL_length]); omega) HP.out.ce)
  have HK1 := Lib.hid k1
  clear h1 k1 b1
  go_wp2_with fail
  refine H1.out.mono ?_
  intro e w2 h2
  rcases hr1 : confL p.ce p.cr with c | y1
  · rw [hr1] at h2
    obtain ⟨rfl, hb1⟩ := h2
    have HE := Lib.hid (wrErr (w := w) (l := l) (show r = .error c from by rw [HR.out, hr1] <;> rfl) hb1)
    clear hr1 hb1 H1
    exact bodyPost_pan rfl HE.out
  rw [hr1] at h2
  obtain ⟨rfl, h2, k2⟩ := h2
  have hy1 := confL_len hr1
  have E1 := Lib.hid hr1
  clear hr1
  replace k2 := HK1.out.trans k2
  clear c3 c4 H1 HK1
  have b2 := k2.keep HB.out.2.2 HB.out.1 (by decide)
  have c0 : w2.cell? ⟨N, 0, none⟩ = some (.int .i64 8) := by rw [← HKD.out]; exact cell_of_row _ _ 0 _ _ _ b2
  have c15 : w2.cell? ⟨N, 15, none⟩ = some (.int .i64 p.whom) := cell_of_row _ _ 15 _ _ _ b2
  have H2 := Lib.hid (wProc_any h2 p.whom (by have := HL.out; (try simp only [List.length_append, putL_length]); omega))
  have HK2 := Lib.hid k2
  clear h2 k2 b2
  go_wp2_with fail
  refine H2.out.mono ?_
  intro e w3 h3
  rcases hr2 : procL p.whom with c | y2
  · rw [hr2] at h3
    obtain ⟨rfl, hb2⟩ := h3
    have HE := Lib.hid (wrErr (w := w) (l := l) (show r = .error c from by rw [HR.out, E1.out, hr2] <;> rfl) hb2)
    clear hr2 hb2 H2
    exact bodyPost_pan rfl HE.out
  rw [hr2] at h3
  obtain ⟨rfl, h3, k3⟩ := h3
  have hy2 := procL_len hr2
  have E2 := Lib.hid hr2
  clear hr2
  replace k3 := HK2.out.trans k3
  clear c0 c15 H2 HK2
  have b3 := k3.keep HB.out.2.2 HB.out.1 (by decide)
  have c16 : w3.cell? ⟨N, 16, none⟩ = some (.int .u32 (p.seq : Int)) := cell_of_row _ _ 16 _ _ _ b3
  have H3 := Lib.hid (wNum_any h3 p.seq 4 (by have := HL.out; (try simp only [List.length_append, putL_length]); omega) (by have := HP.out.seq; omega) (by omega) (by omega))
  have HK3 := Lib.hid k3
  clear h3 k3 b3
  go_wp2_with fail
  refine H3.out.mono ?_
  rintro e w4 ⟨rfl, h4, k4⟩
  replace k4 := HK3.out.trans k4
  clear c16 H3 HK3
  have HE := Lib.hid (show WrEnd w0.heap.size w0 w l r (.returned (.tuple #[])) w4 from by
    rw [show r = .ok (y1 ++ (y2 ++ (putL p.seq 4))) from by rw [HR.out, E1.out, E2.out] <;> rfl]
    exact ⟨rfl, by simpa only [List.append_assoc] using h4, HB.out.2.1.trans k4⟩)
  clear h4 k4
  go_wp2_with fail
  go_end0
  exact HE.out
set_option maxHeartbeats 8000000 in
theorem wBody9_any {w0 w : World} {l : List UInt8} (h : WrAt w0.heap.size w0 w l) (p : Pkt) (hp : PktOk w0 p) (hkd : p.kind = 9) (hl : l.length ≤ 98000000) :
    Calls Try.prog 33 #[.pointer (some ⟨w0.heap.size, 0, none⟩), .agg (pktA p)] w fun e w' => WrEnd w0.heap.size w0 w l (cat (confL p.ce p.cr) (cat (procL p.whom) (msgL p.m))) e w' := by
  obtain ⟨N, hN⟩ : ∃ N, N = w.heap.size := ⟨_, rfl⟩
  obtain ⟨W, hW⟩ : ∃ W, W = w.alloc (.cells (pktA p) 35) := ⟨_, rfl⟩
  have hbA := ba (br w) (.cells (pktA p) 35)
  have hxA := heap_alloc_new w (.cells (pktA p) 35)
  rw [← hW] at hxA hbA
  rw [← hN] at hxA
  have h1 := h.below hbA
  have hne : N ≠ w0.heap.size := by have := h.lt; omega
  have HB := Lib.hid (And.intro hne (And.intro (KeptT.of_below (B := w0.heap.size) hbA) hxA))
  have HL := Lib.hid hl
  obtain ⟨r, hr⟩ : ∃ r, r = cat (confL p.ce p.cr) (cat (procL p.whom) (msgL p.m)) := ⟨_, rfl⟩
  rw [← hr]
  have HP := Lib.hid hp
  have HKD := Lib.hid hkd
  clear hp hkd
  have HR := Lib.hid hr
  clear hr hne hbA h hl hxA
  have hma : pktA p = #[.int .i64 p.kind, .int .i64 p.frm, .int .i64 p.dst, .int .u64 (p.ce : Int), .int .i64 p.cr, .int .i64 p.m.frm, .int .u32 (p.m.seq : Int), .int .u64 (p.m.stamp : Int), .int .i64 p.m.service, .slice p.m.da p.m.ds.length p.m.dc, .string p.m.pay, .int .u64 (p.stamp : Int), .int .u32 (p.sent : Int), .slice p.ga p.got.length p.gc, .int .u64 (p.hor : Int), .int .i64 p.whom, .int .u32 (p.seq : Int), .int .u64 (p.mem : Int), .int .u64 (p.pe : Int), .int .i64 p.pr, .int .u64 (p.epoch : Int), .slice p.xa p.xs.length p.xc] := rfl
  rw [hma] at hW ⊢
  go_enter Try.func33, Try.ntmps33
  go_upto_region 1 with (fail)
  rw [← hW, ← hN]
  clear hma hW hN
  have k1 := KeptT.refl w0.heap.size W
  have b1 := k1.keep HB.out.2.2 HB.out.1 (by decide)
  have c3 : W.cell? ⟨N, 3, none⟩ = some (.int .u64 (p.ce : Int)) := cell_of_row _ _ 3 _ _ _ b1
  have c4 : W.cell? ⟨N, 4, none⟩ = some (.int .i64 p.cr) := cell_of_row _ _ 4 _ _ _ b1
  have H1 := Lib.hid (wConf_any h1 p.ce p.cr (by have := HL.out; (try simp only [List.length_append, putL_length]); omega) HP.out.ce)
  have HK1 := Lib.hid k1
  clear h1 k1 b1
  go_wp2_with fail
  refine H1.out.mono ?_
  intro e w2 h2
  rcases hr1 : confL p.ce p.cr with c | y1
  · rw [hr1] at h2
    obtain ⟨rfl, hb1⟩ := h2
    have HE := Lib.hid (wrErr (w := w) (l := l) (show r = .error c from by rw [HR.out, hr1] <;> rfl) hb1)
    clear hr1 hb1 H1
    exact bodyPost_pan rfl HE.out
  rw [hr1] at h2
  obtain ⟨rfl, h2, k2⟩ := h2
  have hy1 := confL_len hr1
  have E1 := Lib.hid hr1
  clear hr1
  replace k2 := HK1.out.trans k2
  clear c3 c4 H1 HK1
  have b2 := k2.keep HB.out.2.2 HB.out.1 (by decide)
  have c0 : w2.cell? ⟨N, 0, none⟩ = some (.int .i64 9) := by rw [← HKD.out]; exact cell_of_row _ _ 0 _ _ _ b2
  have c15 : w2.cell? ⟨N, 15, none⟩ = some (.int .i64 p.whom) := cell_of_row _ _ 15 _ _ _ b2
  have H2 := Lib.hid (wProc_any h2 p.whom (by have := HL.out; (try simp only [List.length_append, putL_length]); omega))
  have HK2 := Lib.hid k2
  clear h2 k2 b2
  go_wp2_with fail
  refine H2.out.mono ?_
  intro e w3 h3
  rcases hr2 : procL p.whom with c | y2
  · rw [hr2] at h3
    obtain ⟨rfl, hb2⟩ := h3
    have HE := Lib.hid (wrErr (w := w) (l := l) (show r = .error c from by rw [HR.out, E1.out, hr2] <;> rfl) hb2)
    clear hr2 hb2 H2
    exact bodyPost_pan rfl HE.out
  rw [hr2] at h3
  obtain ⟨rfl, h3, k3⟩ := h3
  have hy2 := procL_len hr2
  have E2 := Lib.hid hr2
  clear hr2
  replace k3 := HK2.out.trans k3
  clear c0 c15 H2 HK2
  have b3 := k3.keep HB.out.2.2 HB.out.1 (by decide)
  have c5 : w3.cell? ⟨N, 5, none⟩ = some (.int .i64 p.m.frm) := cell_of_row _ _ 5 _ _ _ b3
  have c6 : w3.cell? ⟨N, 6, none⟩ = some (.int .u32 (p.m.seq : Int)) := cell_of_row _ _ 6 _ _ _ b3
  have c7 : w3.cell? ⟨N, 7, none⟩ = some (.int .u64 (p.m.stamp : Int)) := cell_of_row _ _ 7 _ _ _ b3
  have c8 : w3.cell? ⟨N, 8, none⟩ = some (.int .i64 p.m.service) := cell_of_row _ _ 8 _ _ _ b3
  have c9 : w3.cell? ⟨N, 9, none⟩ = some (.slice p.m.da p.m.ds.length p.m.dc) := cell_of_row _ _ 9 _ _ _ b3
  have c10 : w3.cell? ⟨N, 10, none⟩ = some (.string p.m.pay) := cell_of_row _ _ 10 _ _ _ b3
  have H3 := Lib.hid (wMsg_any h3 p.m (by have := HL.out; (try simp only [List.length_append, putL_length]); omega) HP.out.m)
  have HK3 := Lib.hid k3
  clear h3 k3 b3
  go_wp2_with fail
  refine H3.out.mono ?_
  intro e w4 h4
  rcases hr3 : msgL p.m with c | y3
  · rw [hr3] at h4
    obtain ⟨rfl, hb3⟩ := h4
    have HE := Lib.hid (wrErr (w := w) (l := l) (show r = .error c from by rw [HR.out, E1.out, E2.out, hr3] <;> rfl) hb3)
    clear hr3 hb3 H3
    exact bodyPost_pan rfl HE.out
  rw [hr3] at h4
  obtain ⟨rfl, h4, k4⟩ := h4
  have hy3 := msgL_len hr3
  have E3 := Lib.hid hr3
  clear hr3
  replace k4 := HK3.out.trans k4
  clear c5 c6 c7 c8 c9 c10 H3 HK3
  have HE := Lib.hid (show WrEnd w0.heap.size w0 w l r (.returned (.tuple #[])) w4 from by
    rw [show r = .ok (y1 ++ (y2 ++ (y3))) from by rw [HR.out, E1.out, E2.out, E3.out] <;> rfl]
    exact ⟨rfl, by simpa only [List.append_assoc] using h4, HB.out.2.1.trans k4⟩)
  clear h4 k4
  go_wp2_with fail
  go_end0
  exact HE.out
set_option maxHeartbeats 8000000 in
theorem wBody10_any {w0 w : World} {l : List UInt8} (h : WrAt w0.heap.size w0 w l) (p : Pkt) (hp : PktOk w0 p) (hkd : p.kind = 10) (hl : l.length ≤ 98000000) :
    Calls Try.prog 33 #[.pointer (some ⟨w0.heap.size, 0, none⟩), .agg (pktA p)] w fun e w' => WrEnd w0.heap.size w0 w l (confL p.ce p.cr) e w' := by
  obtain ⟨N, hN⟩ : ∃ N, N = w.heap.size := ⟨_, rfl⟩
  obtain ⟨W, hW⟩ : ∃ W, W = w.alloc (.cells (pktA p) 35) := ⟨_, rfl⟩
  have hbA := ba (br w) (.cells (pktA p) 35)
  have hxA := heap_alloc_new w (.cells (pktA p) 35)
  rw [← hW] at hxA hbA
  rw [← hN] at hxA
  have h1 := h.below hbA
  have hne : N ≠ w0.heap.size := by have := h.lt; omega
  have HB := Lib.hid (And.intro hne (And.intro (KeptT.of_below (B := w0.heap.size) hbA) hxA))
  have HL := Lib.hid hl
  obtain ⟨r, hr⟩ : ∃ r, r = confL p.ce p.cr := ⟨_, rfl⟩
  rw [← hr]
  have HP := Lib.hid hp
  have HKD := Lib.hid hkd
  clear hp hkd
  have HR := Lib.hid hr
  clear hr hne hbA h hl hxA
  have hma : pktA p = #[.int .i64 p.kind, .int .i64 p.frm, .int .i64 p.dst, .int .u64 (p.ce : Int), .int .i64 p.cr, .int .i64 p.m.frm, .int .u32 (p.m.seq : Int), .int .u64 (p.m.stamp : Int), .int .i64 p.m.service, .slice p.m.da p.m.ds.length p.m.dc, .string p.m.pay, .int .u64 (p.stamp : Int), .int .u32 (p.sent : Int), .slice p.ga p.got.length p.gc, .int .u64 (p.hor : Int), .int .i64 p.whom, .int .u32 (p.seq : Int), .int .u64 (p.mem : Int), .int .u64 (p.pe : Int), .int .i64 p.pr, .int .u64 (p.epoch : Int), .slice p.xa p.xs.length p.xc] := rfl
  rw [hma] at hW ⊢
  go_enter Try.func33, Try.ntmps33
  go_upto_region 1 with (fail)
  rw [← hW, ← hN]
  clear hma hW hN
  have k1 := KeptT.refl w0.heap.size W
  have b1 := k1.keep HB.out.2.2 HB.out.1 (by decide)
  have c3 : W.cell? ⟨N, 3, none⟩ = some (.int .u64 (p.ce : Int)) := cell_of_row _ _ 3 _ _ _ b1
  have c4 : W.cell? ⟨N, 4, none⟩ = some (.int .i64 p.cr) := cell_of_row _ _ 4 _ _ _ b1
  have H1 := Lib.hid (wConf_any h1 p.ce p.cr (by have := HL.out; (try simp only [List.length_append, putL_length]); omega) HP.out.ce)
  have HK1 := Lib.hid k1
  clear h1 k1 b1
  go_wp2_with fail
  refine H1.out.mono ?_
  intro e w2 h2
  rcases hr1 : confL p.ce p.cr with c | y1
  · rw [hr1] at h2
    obtain ⟨rfl, hb1⟩ := h2
    have HE := Lib.hid (wrErr (w := w) (l := l) (show r = .error c from by rw [HR.out, hr1] <;> rfl) hb1)
    clear hr1 hb1 H1
    exact bodyPost_pan rfl HE.out
  rw [hr1] at h2
  obtain ⟨rfl, h2, k2⟩ := h2
  have hy1 := confL_len hr1
  have E1 := Lib.hid hr1
  clear hr1
  replace k2 := HK1.out.trans k2
  clear c3 c4 H1 HK1
  have c0 : w2.cell? ⟨N, 0, none⟩ = some (.int .i64 10) := by rw [← HKD.out]; exact cell_of_row _ _ 0 _ _ _ (k2.keep HB.out.2.2 HB.out.1 (by decide))
  have HE := Lib.hid (show WrEnd w0.heap.size w0 w l r (.returned (.tuple #[])) w2 from by
    rw [show r = .ok (y1) from by rw [HR.out, E1.out] <;> rfl]
    exact ⟨rfl, by simpa only [List.append_assoc] using h2, HB.out.2.1.trans k2⟩)
  clear h2 k2
  go_wp2_with fail
  go_end0
  exact HE.out
set_option maxHeartbeats 8000000 in
theorem wBody11_any {w0 w : World} {l : List UInt8} (h : WrAt w0.heap.size w0 w l) (p : Pkt) (hp : PktOk w0 p) (hkd : p.kind = 11) (hl : l.length ≤ 98000000) :
    Calls Try.prog 33 #[.pointer (some ⟨w0.heap.size, 0, none⟩), .agg (pktA p)] w fun e w' => WrEnd w0.heap.size w0 w l (confL p.ce p.cr) e w' := by
  obtain ⟨N, hN⟩ : ∃ N, N = w.heap.size := ⟨_, rfl⟩
  obtain ⟨W, hW⟩ : ∃ W, W = w.alloc (.cells (pktA p) 35) := ⟨_, rfl⟩
  have hbA := ba (br w) (.cells (pktA p) 35)
  have hxA := heap_alloc_new w (.cells (pktA p) 35)
  rw [← hW] at hxA hbA
  rw [← hN] at hxA
  have h1 := h.below hbA
  have hne : N ≠ w0.heap.size := by have := h.lt; omega
  have HB := Lib.hid (And.intro hne (And.intro (KeptT.of_below (B := w0.heap.size) hbA) hxA))
  have HL := Lib.hid hl
  obtain ⟨r, hr⟩ : ∃ r, r = confL p.ce p.cr := ⟨_, rfl⟩
  rw [← hr]
  have HP := Lib.hid hp
  have HKD := Lib.hid hkd
  clear hp hkd
  have HR := Lib.hid hr
  clear hr hne hbA h hl hxA
  have hma : pktA p = #[.int .i64 p.kind, .int .i64 p.frm, .int .i64 p.dst, .int .u64 (p.ce : Int), .int .i64 p.cr, .int .i64 p.m.frm, .int .u32 (p.m.seq : Int), .int .u64 (p.m.stamp : Int), .int .i64 p.m.service, .slice p.m.da p.m.ds.length p.m.dc, .string p.m.pay, .int .u64 (p.stamp : Int), .int .u32 (p.sent : Int), .slice p.ga p.got.length p.gc, .int .u64 (p.hor : Int), .int .i64 p.whom, .int .u32 (p.seq : Int), .int .u64 (p.mem : Int), .int .u64 (p.pe : Int), .int .i64 p.pr, .int .u64 (p.epoch : Int), .slice p.xa p.xs.length p.xc] := rfl
  rw [hma] at hW ⊢
  go_enter Try.func33, Try.ntmps33
  go_upto_region 1 with (fail)
  rw [← hW, ← hN]
  clear hma hW hN
  have k1 := KeptT.refl w0.heap.size W
  have b1 := k1.keep HB.out.2.2 HB.out.1 (by decide)
  have c3 : W.cell? ⟨N, 3, none⟩ = some (.int .u64 (p.ce : Int)) := cell_of_row _ _ 3 _ _ _ b1
  have c4 : W.cell? ⟨N, 4, none⟩ = some (.int .i64 p.cr) := cell_of_row _ _ 4 _ _ _ b1
  have H1 := Lib.hid (wConf_any h1 p.ce p.cr (by have := HL.out; (try simp only [List.length_append, putL_length]); omega) HP.out.ce)
  have HK1 := Lib.hid k1
  clear h1 k1 b1
  go_wp2_with fail
  refine H1.out.mono ?_
  intro e w2 h2
  rcases hr1 : confL p.ce p.cr with c | y1
  · rw [hr1] at h2
    obtain ⟨rfl, hb1⟩ := h2
    have HE := Lib.hid (wrErr (w := w) (l := l) (show r = .error c from by rw [HR.out, hr1] <;> rfl) hb1)
    clear hr1 hb1 H1
    exact bodyPost_pan rfl HE.out
  rw [hr1] at h2
  obtain ⟨rfl, h2, k2⟩ := h2
  have hy1 := confL_len hr1
  have E1 := Lib.hid hr1
  clear hr1
  replace k2 := HK1.out.trans k2
  clear c3 c4 H1 HK1
  have c0 : w2.cell? ⟨N, 0, none⟩ = some (.int .i64 11) := by rw [← HKD.out]; exact cell_of_row _ _ 0 _ _ _ (k2.keep HB.out.2.2 HB.out.1 (by decide))
  have HE := Lib.hid (show WrEnd w0.heap.size w0 w l r (.returned (.tuple #[])) w2 from by
    rw [show r = .ok (y1) from by rw [HR.out, E1.out] <;> rfl]
    exact ⟨rfl, by simpa only [List.append_assoc] using h2, HB.out.2.1.trans k2⟩)
  clear h2 k2
  go_wp2_with fail
  go_end0
  exact HE.out
end Go.Proofs.Ytgpojbmloielmaa
