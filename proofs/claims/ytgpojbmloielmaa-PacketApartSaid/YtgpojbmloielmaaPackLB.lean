/-
  What the laws' Few returns.
  Conditions: those that each theorem names.
-/
import Derived.Test.YtgpojbmloielmaaPackLA
namespace Go.Proofs.Ytgpojbmloielmaa
set_option linter.unusedVariables false
set_option linter.unusedSimpArgs false
open Go.RowKit
def ExsRd (w0 : World) (xa : Option Addr) (xs : List Exch) : Prop := xs.length ≤ 2199023255488 ∧ ∀ i (h : i < xs.length), ExW w0 xs[i] ∧ ∃ g o, xa = some ⟨g, o, none⟩ ∧ g < w0.heap.size ∧ w0.rangeAt g (o + i * 6) (exA xs[i]).toList
/-- a packet that is read, however large -/
structure PktRd (w0 : World) (p : Pkt) : Prop where
  ce : p.ce < 18446744073709551616
  m : MsgW w0 p.m
  stamp : p.stamp < 18446744073709551616
  sent : p.sent < 4294967296
  got : NumsOk w0 p.ga p.got
  hor : p.hor < 18446744073709551616
  seq : p.seq < 4294967296
  mem : p.mem < 18446744073709551616
  pe : p.pe < 18446744073709551616
  epoch : p.epoch < 18446744073709551616
  xs : ExsRd w0 p.xa p.xs
theorem PktRd.ok {w : World} {p : Pkt} (h : PktRd w p) (hx : p.xs.length ≤ 50000) : PktOk w p := ⟨h.ce, h.m, h.stamp, h.sent, h.got, h.hor, h.seq, h.mem, h.pe, h.epoch, hx, h.xs.2⟩
theorem ExsRd.below' {w w' : World} {xa : Option Addr} {xs : List Exch} (h : ExsRd w xa xs) (hb : Below w.heap.size w w') : ExsRd w' xa xs :=
  ⟨h.1, fun i hi => by
    obtain ⟨⟨h1, h2, h3⟩, g, o, e, hlt, hr⟩ := h.2 i hi
    exact ⟨⟨h1, h2, NumsOk.below h3 hb⟩, g, o, e, Nat.lt_of_lt_of_le hlt hb.size, fun j u hu => (hb.cell (p := ⟨g, o + i * 6 + j, none⟩) hlt).trans (hr j u hu)⟩⟩
def FewB (p : Pkt) (b : Bool) : Prop := b = true → p.xs.length ≤ 50000
def FewR (p : Pkt) (e : Ending) : Prop := ∃ b, e = .returned (.bool b) ∧ FewB p b
set_option maxRecDepth 100000 in
set_option maxHeartbeats 8000000 in
theorem Few_any (p : Pkt) (w : World) (hp : PktRd w p) : Calls Try.prog 13 #[.agg (pktA p)] w fun e w' => FewR p e ∧ Below w.heap.size w w' := by
  obtain ⟨N, hN⟩ : ∃ N, N = w.heap.size := ⟨_, rfl⟩
  obtain ⟨W, hW⟩ : ∃ W, W = w.alloc (.cells (pktA p) 35) := ⟨_, rfl⟩
  have hbA := ba (br w) (.cells (pktA p) 35)
  have hxA := heap_alloc_new w (.cells (pktA p) 35)
  rw [← hW] at hxA hbA
  rw [← hN] at hxA
  have c9 : W.cell? ⟨N, 9, none⟩ = some (.slice p.m.da p.m.ds.length p.m.dc) := cell_of_row _ _ 9 _ _ _ hxA
  have c10 : W.cell? ⟨N, 10, none⟩ = some (.string p.m.pay) := cell_of_row _ _ 10 _ _ _ hxA
  have c13 : W.cell? ⟨N, 13, none⟩ = some (.slice p.ga p.got.length p.gc) := cell_of_row _ _ 13 _ _ _ hxA
  have c21 : W.cell? ⟨N, 21, none⟩ = some (.slice p.xa p.xs.length p.xc) := cell_of_row _ _ 21 _ _ _ hxA
  have HX := Lib.hid (ExsRd.below' hp.xs hbA)
  have HB := Lib.hid hbA
  have hm1 : p.m.pay.size ≤ 140737488351232 := hp.m.1
  have hm2 : p.m.ds.length ≤ 35184372087808 := hp.m.2.2.2.1
  have hm3 : p.got.length ≤ 35184372087808 := hp.got.1
  have hm4 : p.xs.length ≤ 2199023255488 := hp.xs.1
  have hma : pktA p = #[.int .i64 p.kind, .int .i64 p.frm, .int .i64 p.dst, .int .u64 (p.ce : Int), .int .i64 p.cr, .int .i64 p.m.frm, .int .u32 (p.m.seq : Int), .int .u64 (p.m.stamp : Int), .int .i64 p.m.service, .slice p.m.da p.m.ds.length p.m.dc, .string p.m.pay, .int .u64 (p.stamp : Int), .int .u32 (p.sent : Int), .slice p.ga p.got.length p.gc, .int .u64 (p.hor : Int), .int .i64 p.whom, .int .u32 (p.seq : Int), .int .u64 (p.mem : Int), .int .u64 (p.pe : Int), .int .i64 p.pr, .int .u64 (p.epoch : Int), .slice p.xa p.xs.length p.xc] := rfl
  rw [hma] at hW ⊢
  clear hxA hbA hp
  go_enter Try.func13, Try.ntmps13
  go_upto_region 1 with (fail)
  rw [← hW, ← hN]
  clear hma hW hN
  go_cut [3] (fun s3 wx => ∃ z : Int, s3 = .int .i64 z ∧ 0 ≤ z ∧ z ≤ 150000 ∧ W = wx)
  case first =>
    go_wp2_with fail
    all_goals
      go_meet
      exact ⟨_, rfl, by omega, by omega, rfl⟩
  case rest =>
    obtain ⟨z, rfl, hz0, hz1, rfl⟩ := hcut
    clear c9 c10 c13 hm1 hm2 hm3
    go_wp2_with fail
    go_loopw [3, 4] (fun v i wr => ∃ (k : Nat) (y : Int), k ≤ p.xs.length ∧ i = .int .i64 (k : Int) ∧ v = .int .i64 y ∧ (k : Int) ≤ y ∧ y ≤ 150000 ∧ wr = W) (fun _ i _ => p.xs.length - (intOf i).toNat)
    case atStart => exact ⟨0, z, by omega, rfl, rfl, hz0, hz1, rfl⟩
    case round =>
      obtain ⟨k, y, hk, rfl, rfl, hy0, hy1, rfl⟩ := hrel
      by_cases hlt : k < p.xs.length
      · have hbool : decide (k < p.xs.length) = true := by rw [decide_eq_true_eq]; exact hlt
        have hbool' : decide ((k : Int) < (p.xs.length : Int)) = true := by rw [decide_eq_true_eq]; omega
        have hki : (k : Int) < (p.xs.length : Int) := by omega
        obtain ⟨⟨j1, j2, j3⟩, g, o, hxa, hg, hrow⟩ := HX.out.2 k hlt
        rw [hxa] at c21
        generalize p.xs[k] = x at *
        obtain ⟨d0, d1, d2, d3, d4, d5⟩ := ex_cells hrow
        have hc5 : x.cs.length ≤ 35184372087808 := j3.1
        have HLT := Lib.hid hlt
        clear j1 j2 j3 hg hrow d0 d1 d2 d4 d5 hlt
        by_cases h5 : x.cs.length ≤ 50000
        · by_cases h6 : y + 1 + x.cs.length ≤ 50000
          · have e1 : decide (50000 < y + 1 + (x.cs.length : Int)) = false := by rw [decide_eq_false_iff_not]; omega
            go_wp2_with fail
            all_goals exact ⟨⟨k + 1, _, HLT.out, by go_num, by first | rfl | go_num, by omega, by omega, by first | rfl | trivial⟩, measI HLT.out⟩
          · have e1 : decide (50000 < y + 1 + (x.cs.length : Int)) = true := by rw [decide_eq_true_eq]; omega
            go_wp2_with fail
            all_goals
              go_ret
              exact ⟨⟨false, rfl, fun h => by cases h⟩, HB.out⟩
        · have e1 : decide (50000 < y + 1 + (50000 : Int)) = true := by rw [decide_eq_true_eq]; omega
          go_wp2_with fail
          all_goals
            go_ret
            exact ⟨⟨false, rfl, fun h => by cases h⟩, HB.out⟩
      · have hbool : decide (k < p.xs.length) = false := by rw [decide_eq_false_iff_not]; exact hlt
        have hbool' : decide ((k : Int) < (p.xs.length : Int)) = false := by rw [decide_eq_false_iff_not]; omega
        have HK := Lib.hid (And.intro hy0 (show p.xs.length ≤ k by omega))
        clear hlt
        go_wp2_with fail
        go_ret
        exact ⟨⟨_, rfl, fun h => by have h1 := HK.out.1; have h2 := HK.out.2; simp at h; omega⟩, HB.out⟩
end Go.Proofs.Ytgpojbmloielmaa
