/-
  What the reference's Same says of two packets that read the same.
  Conditions: those that each theorem names.
-/
import Derived.Test.YtgpojbmloielmaaPackP
namespace Go.Proofs.Ytgpojbmloielmaa
set_option linter.unusedVariables false
set_option linter.unusedSimpArgs false
open Go.RowKit
set_option maxHeartbeats 4000000 in
theorem Vectors_any (da da2 : Option Addr) (dc dc2 : Nat) (ds : List Nat) (w : World) (h1 : NumsOk w da ds) (h2 : NumsOk w da2 ds) :
    Calls Try.prog 29 #[.slice da ds.length dc, .slice da2 ds.length dc2] w fun e w' => e = .returned (.bool true) ∧ Below w.heap.size w w' := by
  obtain ⟨n, hn⟩ : ∃ n, n = ds.length := ⟨_, rfl⟩
  have hn5 : n ≤ 35184372087808 := by rw [hn]; exact h1.1
  have H1 := Lib.hid h1.2
  have H2 := Lib.hid h2.2
  rw [← hn]
  have HN := Lib.hid hn
  clear h1 h2 hn
  go_enter Try.func29, Try.ntmps29
  go_wp2_with fail
  go_loopw [5] (fun i wr => ∃ k : Nat, k ≤ n ∧ i = .int .i64 (k : Int) ∧ Below w.heap.size w wr) (fun i _ => n - (intOf i).toNat)
  case atStart => exact ⟨0, by omega, rfl, br _⟩
  case round =>
    obtain ⟨k, hk, rfl, hB⟩ := hrel
    by_cases hlt : k < n
    · have hbool : decide ((k : Int) < (n : Int)) = true := by simpa using hlt
      have hki : (k : Int) < (n : Int) := by omega
      have hkd : k < ds.length := by rw [← HN.out]; exact hlt
      obtain ⟨j1, b, o, rfl, g1, c1⟩ := H1.out k hkd
      obtain ⟨j2, b2, o2, rfl, g2, c2⟩ := H2.out k hkd
      have d1 : wr.cell? ⟨b, o + k, none⟩ = some (.int .u32 (ds[k] : Int)) := (hB.cell (p := ⟨b, o + k, none⟩) g1).trans c1
      have d2 : wr.cell? ⟨b2, o2 + k, none⟩ = some (.int .u32 (ds[k] : Int)) := (hB.cell (p := ⟨b2, o2 + k, none⟩) g2).trans c2
      generalize ds[k] = x at *
      have HLT := Lib.hid hlt
      have HB := Lib.hid hB
      clear hB j1 j2 g1 g2 c1 c2 hkd hlt
      go_wp2_with fail
      go_quiet (fail)
      go_wp2_with fail
      exact ⟨⟨k + 1, HLT.out, by go_num, bn HB.out _⟩, measI HLT.out⟩
    · have hbool : decide ((k : Int) < (n : Int)) = false := by simpa using hlt
      go_wp2_with fail
      go_ret
      exact ⟨rfl, hB⟩
set_option maxRecDepth 100000 in
set_option maxHeartbeats 8000000 in
theorem Exchanges_any (xa xa2 : Option Addr) (xc xc2 : Nat) (xs ys : List Exch) (w : World) (h1 : ExsOk w xa xs) (h2 : ExsOk w xa2 ys) (hc : xs.map coreX = ys.map coreX) :
    Calls Try.prog 30 #[.slice xa xs.length xc, .slice xa2 ys.length xc2] w fun e w' => e = .returned (.bool true) ∧ Below w.heap.size w w' := by
  obtain ⟨n, hn⟩ : ∃ n, n = xs.length := ⟨_, rfl⟩
  have hm : ys.length = n := by have := congrArg List.length hc; simp at this; omega
  have hn5 : n ≤ 50000 := by rw [hn]; exact h1.1
  have H1 := Lib.hid h1.2
  have H2 := Lib.hid h2.2
  rw [hm, ← hn]
  have HN := Lib.hid (And.intro hn (And.intro hm hc))
  clear h1 h2 hn hm hc
  go_enter Try.func30, Try.ntmps30
  go_wp2_with fail
  go_loopw [5] (fun i wr => ∃ k : Nat, k ≤ n ∧ i = .int .i64 (k : Int) ∧ Below w.heap.size w wr) (fun i _ => n - (intOf i).toNat)
  case atStart => exact ⟨0, by omega, rfl, br _⟩
  case round =>
    obtain ⟨k, hk, rfl, hB⟩ := hrel
    by_cases hlt : k < n
    · have hbool : decide ((k : Int) < (n : Int)) = true := by simpa using hlt
      have hki : (k : Int) < (n : Int) := by omega
      have hkd : k < xs.length := by rw [← HN.out.1]; exact hlt
      have hkd2 : k < ys.length := by rw [HN.out.2.1]; exact hlt
      obtain ⟨⟨j1, j2, j3⟩, b, o, rfl, g1, r1⟩ := H1.out k hkd
      obtain ⟨⟨m1, m2, m3⟩, b2, o2, rfl, g2, r2⟩ := H2.out k hkd2
      have hx : coreX xs[k] = coreX ys[k] := by
        have := List.getElem_of_eq HN.out.2.2 (i := k) (by simpa using hkd)
        simpa using this
      have hys : ys[k] = { xs[k] with ca := ys[k].ca, cc := ys[k].cc } := by
        generalize xs[k] = x at *
        generalize ys[k] = y at *
        cases x; cases y
        simp only [coreX, Exch.mk.injEq] at hx
        obtain ⟨rfl, rfl, rfl, rfl, rfl, rfl, _, _⟩ := hx
        rfl
      generalize ys[k].ca = ca2 at hys
      generalize ys[k].cc = cc2 at hys
      rw [hys] at r2 m3
      generalize xs[k] = x at *
      have hV := Vectors_any x.ca ca2 x.cc cc2 x.cs wr (NumsOk.below j3 hB) (NumsOk.below m3 hB)
      have HV := Lib.hid (show ∀ X : Bel wr, Calls Try.prog 29 #[.slice x.ca x.cs.length x.cc, .slice ca2 x.cs.length cc2] X.val fun e w' => e = .returned (.bool true) ∧ Below X.val.heap.size X.val w' from fun X => Vectors_any x.ca ca2 x.cc cc2 x.cs X.val (NumsOk.below (NumsOk.below j3 hB) X.prop) (NumsOk.below (NumsOk.below m3 hB) X.prop))
      obtain ⟨a0, a1, a2, a3, a4, a5⟩ := ex_cells (fun j u hu => (hB.cell (p := ⟨b, o + k * 6 + j, none⟩) g1).trans (r1 j u hu))
      obtain ⟨e0, e1, e2, e3, e4, e5⟩ := ex_cells (fun j u hu => (hB.cell (p := ⟨b2, o2 + k * 6 + j, none⟩) g2).trans (r2 j u hu))
      have gb := Nat.lt_of_lt_of_le g1 hB.size
      have gb2 := Nat.lt_of_lt_of_le g2 hB.size
      have A0 := Bel.cell a0 gb
      have A1 := Bel.cell a1 gb
      have A2 := Bel.cell a2 gb
      have A3 := Bel.cell a3 gb
      have A4 := Bel.cell a4 gb
      have A5 := Bel.cell a5 gb
      have E0 := Bel.cell e0 gb2
      have E1 := Bel.cell e1 gb2
      have E2 := Bel.cell e2 gb2
      have E3 := Bel.cell e3 gb2
      have E4 := Bel.cell e4 gb2
      have E5 := Bel.cell e5 gb2
      have HLT := Lib.hid hlt
      have HB := Lib.hid hB
      clear hB j1 j2 j3 m1 m2 m3 g1 g2 r1 r2 hkd hkd2 hlt hx hys hV gb gb2 a0 a1 a2 a3 a4 a5 e0 e1 e2 e3 e4 e5
      go_upto_region 6 with (fail)
      refine wp_region_bel (by kernel_rfl) (by kernel_rfl) ?_
      repeat (go_big_quiet_step ((go_at_call 29; exact bel_call (HV.out _))))
      refine wpQuiet_nil ?_
      rintro w7 ⟨X, rfl⟩
      have HX := Lib.hid (bt HB.out X.prop)
      go_wp2_with fail
      exact ⟨⟨k + 1, HLT.out, by go_num, HX.out⟩, measI HLT.out⟩
    · have hbool : decide ((k : Int) < (n : Int)) = false := by simpa using hlt
      go_wp2_with fail
      go_ret
      exact ⟨rfl, hB⟩
theorem MsgW.ok {w : World} {m : Msg} (h : MsgW w m) : MsgOk w m :=
  ⟨by have := h.2.2.2.1; omega, by have := h.1; omega, h.2.1, h.2.2.1, fun i hi => by obtain ⟨_, b, o, e, hlt, hc⟩ := h.2.2.2.2 i hi; exact ⟨b, o, e, hlt, hc⟩⟩
set_option maxRecDepth 100000 in
set_option maxHeartbeats 8000000 in
theorem same_pk (p : Pkt) (ga2 da2 xa2 : Option Addr) (gc2 dc2 xc2 : Nat) (ys : List Exch) (w : World) (h1 : PktOk w p) (h2 : NumsOk w ga2 p.got) (h3 : NumsOk w da2 p.m.ds) (h4 : ExsOk w xa2 ys) (hc : p.xs.map coreX = ys.map coreX) :
    Calls Try.prog 12 #[.agg #[.int .i64 p.kind, .int .i64 p.frm, .int .i64 p.dst, .int .u64 (p.ce : Int), .int .i64 p.cr, .int .i64 p.m.frm, .int .u32 (p.m.seq : Int), .int .u64 (p.m.stamp : Int), .int .i64 p.m.service, .slice p.m.da p.m.ds.length p.m.dc, .string p.m.pay, .int .u64 (p.stamp : Int), .int .u32 (p.sent : Int), .slice p.ga p.got.length p.gc, .int .u64 (p.hor : Int), .int .i64 p.whom, .int .u32 (p.seq : Int), .int .u64 (p.mem : Int), .int .u64 (p.pe : Int), .int .i64 p.pr, .int .u64 (p.epoch : Int), .slice p.xa p.xs.length p.xc], .agg #[.int .i64 p.kind, .int .i64 p.frm, .int .i64 p.dst, .int .u64 (p.ce : Int), .int .i64 p.cr, .int .i64 p.m.frm, .int .u32 (p.m.seq : Int), .int .u64 (p.m.stamp : Int), .int .i64 p.m.service, .slice da2 p.m.ds.length dc2, .string p.m.pay, .int .u64 (p.stamp : Int), .int .u32 (p.sent : Int), .slice ga2 p.got.length gc2, .int .u64 (p.hor : Int), .int .i64 p.whom, .int .u32 (p.seq : Int), .int .u64 (p.mem : Int), .int .u64 (p.pe : Int), .int .i64 p.pr, .int .u64 (p.epoch : Int), .slice xa2 ys.length xc2]] w fun e w' => e = .returned (.bool true) ∧ Below w.heap.size w w' := by
  obtain ⟨W, hW⟩ : ∃ W, W = (w.alloc (.cells #[.int .i64 p.kind, .int .i64 p.frm, .int .i64 p.dst, .int .u64 (p.ce : Int), .int .i64 p.cr, .int .i64 p.m.frm, .int .u32 (p.m.seq : Int), .int .u64 (p.m.stamp : Int), .int .i64 p.m.service, .slice p.m.da p.m.ds.length p.m.dc, .string p.m.pay, .int .u64 (p.stamp : Int), .int .u32 (p.sent : Int), .slice p.ga p.got.length p.gc, .int .u64 (p.hor : Int), .int .i64 p.whom, .int .u32 (p.seq : Int), .int .u64 (p.mem : Int), .int .u64 (p.pe : Int), .int .i64 p.pr, .int .u64 (p.epoch : Int), .slice p.xa p.xs.length p.xc] 35)).alloc (.cells #[.int .i64 p.kind, .int .i64 p.frm, .int .i64 p.dst, .int .u64 (p.ce : Int), .int .i64 p.cr, .int .i64 p.m.frm, .int .u32 (p.m.seq : Int), .int .u64 (p.m.stamp : Int), .int .i64 p.m.service, .slice da2 p.m.ds.length dc2, .string p.m.pay, .int .u64 (p.stamp : Int), .int .u32 (p.sent : Int), .slice ga2 p.got.length gc2, .int .u64 (p.hor : Int), .int .i64 p.whom, .int .u32 (p.seq : Int), .int .u64 (p.mem : Int), .int .u64 (p.pe : Int), .int .i64 p.pr, .int .u64 (p.epoch : Int), .slice xa2 ys.length xc2] 35) := ⟨_, rfl⟩
  have b1 := ba (br w) (.cells #[.int .i64 p.kind, .int .i64 p.frm, .int .i64 p.dst, .int .u64 (p.ce : Int), .int .i64 p.cr, .int .i64 p.m.frm, .int .u32 (p.m.seq : Int), .int .u64 (p.m.stamp : Int), .int .i64 p.m.service, .slice p.m.da p.m.ds.length p.m.dc, .string p.m.pay, .int .u64 (p.stamp : Int), .int .u32 (p.sent : Int), .slice p.ga p.got.length p.gc, .int .u64 (p.hor : Int), .int .i64 p.whom, .int .u32 (p.seq : Int), .int .u64 (p.mem : Int), .int .u64 (p.pe : Int), .int .i64 p.pr, .int .u64 (p.epoch : Int), .slice p.xa p.xs.length p.xc] 35)
  have b2 := ba (br (w.alloc (.cells #[.int .i64 p.kind, .int .i64 p.frm, .int .i64 p.dst, .int .u64 (p.ce : Int), .int .i64 p.cr, .int .i64 p.m.frm, .int .u32 (p.m.seq : Int), .int .u64 (p.m.stamp : Int), .int .i64 p.m.service, .slice p.m.da p.m.ds.length p.m.dc, .string p.m.pay, .int .u64 (p.stamp : Int), .int .u32 (p.sent : Int), .slice p.ga p.got.length p.gc, .int .u64 (p.hor : Int), .int .i64 p.whom, .int .u32 (p.seq : Int), .int .u64 (p.mem : Int), .int .u64 (p.pe : Int), .int .i64 p.pr, .int .u64 (p.epoch : Int), .slice p.xa p.xs.length p.xc] 35))) (.cells #[.int .i64 p.kind, .int .i64 p.frm, .int .i64 p.dst, .int .u64 (p.ce : Int), .int .i64 p.cr, .int .i64 p.m.frm, .int .u32 (p.m.seq : Int), .int .u64 (p.m.stamp : Int), .int .i64 p.m.service, .slice da2 p.m.ds.length dc2, .string p.m.pay, .int .u64 (p.stamp : Int), .int .u32 (p.sent : Int), .slice ga2 p.got.length gc2, .int .u64 (p.hor : Int), .int .i64 p.whom, .int .u32 (p.seq : Int), .int .u64 (p.mem : Int), .int .u64 (p.pe : Int), .int .i64 p.pr, .int .u64 (p.epoch : Int), .slice xa2 ys.length xc2] 35)
  have n1 := (b2.block w.heap.size (by simp)).trans (heap_alloc_new w (.cells #[.int .i64 p.kind, .int .i64 p.frm, .int .i64 p.dst, .int .u64 (p.ce : Int), .int .i64 p.cr, .int .i64 p.m.frm, .int .u32 (p.m.seq : Int), .int .u64 (p.m.stamp : Int), .int .i64 p.m.service, .slice p.m.da p.m.ds.length p.m.dc, .string p.m.pay, .int .u64 (p.stamp : Int), .int .u32 (p.sent : Int), .slice p.ga p.got.length p.gc, .int .u64 (p.hor : Int), .int .i64 p.whom, .int .u32 (p.seq : Int), .int .u64 (p.mem : Int), .int .u64 (p.pe : Int), .int .i64 p.pr, .int .u64 (p.epoch : Int), .slice p.xa p.xs.length p.xc] 35))
  have n2 := heap_alloc_new (w.alloc (.cells #[.int .i64 p.kind, .int .i64 p.frm, .int .i64 p.dst, .int .u64 (p.ce : Int), .int .i64 p.cr, .int .i64 p.m.frm, .int .u32 (p.m.seq : Int), .int .u64 (p.m.stamp : Int), .int .i64 p.m.service, .slice p.m.da p.m.ds.length p.m.dc, .string p.m.pay, .int .u64 (p.stamp : Int), .int .u32 (p.sent : Int), .slice p.ga p.got.length p.gc, .int .u64 (p.hor : Int), .int .i64 p.whom, .int .u32 (p.seq : Int), .int .u64 (p.mem : Int), .int .u64 (p.pe : Int), .int .i64 p.pr, .int .u64 (p.epoch : Int), .slice p.xa p.xs.length p.xc] 35)) (.cells #[.int .i64 p.kind, .int .i64 p.frm, .int .i64 p.dst, .int .u64 (p.ce : Int), .int .i64 p.cr, .int .i64 p.m.frm, .int .u32 (p.m.seq : Int), .int .u64 (p.m.stamp : Int), .int .i64 p.m.service, .slice da2 p.m.ds.length dc2, .string p.m.pay, .int .u64 (p.stamp : Int), .int .u32 (p.sent : Int), .slice ga2 p.got.length gc2, .int .u64 (p.hor : Int), .int .i64 p.whom, .int .u32 (p.seq : Int), .int .u64 (p.mem : Int), .int .u64 (p.pe : Int), .int .i64 p.pr, .int .u64 (p.epoch : Int), .slice xa2 ys.length xc2] 35)
  have s1 : (w.alloc (.cells #[.int .i64 p.kind, .int .i64 p.frm, .int .i64 p.dst, .int .u64 (p.ce : Int), .int .i64 p.cr, .int .i64 p.m.frm, .int .u32 (p.m.seq : Int), .int .u64 (p.m.stamp : Int), .int .i64 p.m.service, .slice p.m.da p.m.ds.length p.m.dc, .string p.m.pay, .int .u64 (p.stamp : Int), .int .u32 (p.sent : Int), .slice p.ga p.got.length p.gc, .int .u64 (p.hor : Int), .int .i64 p.whom, .int .u32 (p.seq : Int), .int .u64 (p.mem : Int), .int .u64 (p.pe : Int), .int .i64 p.pr, .int .u64 (p.epoch : Int), .slice p.xa p.xs.length p.xc] 35)).heap.size = w.heap.size + 1 := by simp
  rw [s1] at n2
  have hbW := bt b1 b2
  rw [← hW] at n1 n2 hbW
  clear b1 b2 s1
  have l1 := (Array.getElem?_eq_some_iff.1 n1).1
  have l2 := (Array.getElem?_eq_some_iff.1 n2).1
  have h1' := h1.below hbW
  have h2' := NumsOk.below h2 hbW
  have h3' := NumsOk.below h3 hbW
  have h4' := ExsOk.below h4 hbW
  have HM := Lib.hid (show ∀ X : Bel W, Calls Try.prog 28 #[.agg #[.int .i64 p.m.frm, .int .u32 (p.m.seq : Int), .int .u64 (p.m.stamp : Int), .int .i64 p.m.service, .slice p.m.da p.m.ds.length p.m.dc, .string p.m.pay], .agg #[.int .i64 p.m.frm, .int .u32 (p.m.seq : Int), .int .u64 (p.m.stamp : Int), .int .i64 p.m.service, .slice da2 p.m.ds.length dc2, .string p.m.pay]] X.val fun e w' => e = .returned (.bool true) ∧ ∃ Y : Bel W, w' = Y.val from fun X => by
    have hb : MsgW W { p.m with da := da2, dc := dc2 } := ⟨h1'.m.1, h1'.m.2.1, h1'.m.2.2.1, h3'⟩
    have := Same_any p.m { p.m with da := da2, dc := dc2 } X.val (h1'.m.ok.below X.prop) (hb.ok.below X.prop)
    rw [show sameM p.m { p.m with da := da2, dc := dc2 } = true from by simp [sameM]] at this
    exact bel_call this)
  have HG := Lib.hid (show ∀ X : Bel W, Calls Try.prog 29 #[.slice p.ga p.got.length p.gc, .slice ga2 p.got.length gc2] X.val fun e w' => e = .returned (.bool true) ∧ ∃ Y : Bel W, w' = Y.val from fun X => bel_call (Vectors_any _ _ _ _ _ X.val (NumsOk.below h1'.got X.prop) (NumsOk.below h2' X.prop)))
  have HX := Lib.hid (show ∀ X : Bel W, Calls Try.prog 30 #[.slice p.xa p.xs.length p.xc, .slice xa2 ys.length xc2] X.val fun e w' => e = .returned (.bool true) ∧ ∃ Y : Bel W, w' = Y.val from fun X => bel_call (Exchanges_any _ _ _ _ _ _ X.val (ExsOk.below h1'.xs X.prop) (ExsOk.below h4' X.prop) hc))
  have c0 := Bel.cell (show W.cell? ⟨w.heap.size, 0, none⟩ = some (.int .i64 p.kind) from cell_of_row _ _ 0 _ _ _ n1) l1
  have e0 := Bel.cell (show W.cell? ⟨w.heap.size + 1, 0, none⟩ = some (.int .i64 p.kind) from cell_of_row _ _ 0 _ _ _ n2) l2
  have c1 := Bel.cell (show W.cell? ⟨w.heap.size, 1, none⟩ = some (.int .i64 p.frm) from cell_of_row _ _ 1 _ _ _ n1) l1
  have e1 := Bel.cell (show W.cell? ⟨w.heap.size + 1, 1, none⟩ = some (.int .i64 p.frm) from cell_of_row _ _ 1 _ _ _ n2) l2
  have c2 := Bel.cell (show W.cell? ⟨w.heap.size, 2, none⟩ = some (.int .i64 p.dst) from cell_of_row _ _ 2 _ _ _ n1) l1
  have e2 := Bel.cell (show W.cell? ⟨w.heap.size + 1, 2, none⟩ = some (.int .i64 p.dst) from cell_of_row _ _ 2 _ _ _ n2) l2
  have c3 := Bel.cell (show W.cell? ⟨w.heap.size, 3, none⟩ = some (.int .u64 (p.ce : Int)) from cell_of_row _ _ 3 _ _ _ n1) l1
  have e3 := Bel.cell (show W.cell? ⟨w.heap.size + 1, 3, none⟩ = some (.int .u64 (p.ce : Int)) from cell_of_row _ _ 3 _ _ _ n2) l2
  have c4 := Bel.cell (show W.cell? ⟨w.heap.size, 4, none⟩ = some (.int .i64 p.cr) from cell_of_row _ _ 4 _ _ _ n1) l1
  have e4 := Bel.cell (show W.cell? ⟨w.heap.size + 1, 4, none⟩ = some (.int .i64 p.cr) from cell_of_row _ _ 4 _ _ _ n2) l2
  have c5 := Bel.cell (show W.cell? ⟨w.heap.size, 5, none⟩ = some (.int .i64 p.m.frm) from cell_of_row _ _ 5 _ _ _ n1) l1
  have e5 := Bel.cell (show W.cell? ⟨w.heap.size + 1, 5, none⟩ = some (.int .i64 p.m.frm) from cell_of_row _ _ 5 _ _ _ n2) l2
  have c6 := Bel.cell (show W.cell? ⟨w.heap.size, 6, none⟩ = some (.int .u32 (p.m.seq : Int)) from cell_of_row _ _ 6 _ _ _ n1) l1
  have e6 := Bel.cell (show W.cell? ⟨w.heap.size + 1, 6, none⟩ = some (.int .u32 (p.m.seq : Int)) from cell_of_row _ _ 6 _ _ _ n2) l2
  have c7 := Bel.cell (show W.cell? ⟨w.heap.size, 7, none⟩ = some (.int .u64 (p.m.stamp : Int)) from cell_of_row _ _ 7 _ _ _ n1) l1
  have e7 := Bel.cell (show W.cell? ⟨w.heap.size + 1, 7, none⟩ = some (.int .u64 (p.m.stamp : Int)) from cell_of_row _ _ 7 _ _ _ n2) l2
  have c8 := Bel.cell (show W.cell? ⟨w.heap.size, 8, none⟩ = some (.int .i64 p.m.service) from cell_of_row _ _ 8 _ _ _ n1) l1
  have e8 := Bel.cell (show W.cell? ⟨w.heap.size + 1, 8, none⟩ = some (.int .i64 p.m.service) from cell_of_row _ _ 8 _ _ _ n2) l2
  have c9 := Bel.cell (show W.cell? ⟨w.heap.size, 9, none⟩ = some (.slice p.m.da p.m.ds.length p.m.dc) from cell_of_row _ _ 9 _ _ _ n1) l1
  have e9 := Bel.cell (show W.cell? ⟨w.heap.size + 1, 9, none⟩ = some (.slice da2 p.m.ds.length dc2) from cell_of_row _ _ 9 _ _ _ n2) l2
  have c10 := Bel.cell (show W.cell? ⟨w.heap.size, 10, none⟩ = some (.string p.m.pay) from cell_of_row _ _ 10 _ _ _ n1) l1
  have e10 := Bel.cell (show W.cell? ⟨w.heap.size + 1, 10, none⟩ = some (.string p.m.pay) from cell_of_row _ _ 10 _ _ _ n2) l2
  have c11 := Bel.cell (show W.cell? ⟨w.heap.size, 11, none⟩ = some (.int .u64 (p.stamp : Int)) from cell_of_row _ _ 11 _ _ _ n1) l1
  have e11 := Bel.cell (show W.cell? ⟨w.heap.size + 1, 11, none⟩ = some (.int .u64 (p.stamp : Int)) from cell_of_row _ _ 11 _ _ _ n2) l2
  have c12 := Bel.cell (show W.cell? ⟨w.heap.size, 12, none⟩ = some (.int .u32 (p.sent : Int)) from cell_of_row _ _ 12 _ _ _ n1) l1
  have e12 := Bel.cell (show W.cell? ⟨w.heap.size + 1, 12, none⟩ = some (.int .u32 (p.sent : Int)) from cell_of_row _ _ 12 _ _ _ n2) l2
  have c13 := Bel.cell (show W.cell? ⟨w.heap.size, 13, none⟩ = some (.slice p.ga p.got.length p.gc) from cell_of_row _ _ 13 _ _ _ n1) l1
  have e13 := Bel.cell (show W.cell? ⟨w.heap.size + 1, 13, none⟩ = some (.slice ga2 p.got.length gc2) from cell_of_row _ _ 13 _ _ _ n2) l2
  have c14 := Bel.cell (show W.cell? ⟨w.heap.size, 14, none⟩ = some (.int .u64 (p.hor : Int)) from cell_of_row _ _ 14 _ _ _ n1) l1
  have e14 := Bel.cell (show W.cell? ⟨w.heap.size + 1, 14, none⟩ = some (.int .u64 (p.hor : Int)) from cell_of_row _ _ 14 _ _ _ n2) l2
  have c15 := Bel.cell (show W.cell? ⟨w.heap.size, 15, none⟩ = some (.int .i64 p.whom) from cell_of_row _ _ 15 _ _ _ n1) l1
  have e15 := Bel.cell (show W.cell? ⟨w.heap.size + 1, 15, none⟩ = some (.int .i64 p.whom) from cell_of_row _ _ 15 _ _ _ n2) l2
  have c16 := Bel.cell (show W.cell? ⟨w.heap.size, 16, none⟩ = some (.int .u32 (p.seq : Int)) from cell_of_row _ _ 16 _ _ _ n1) l1
  have e16 := Bel.cell (show W.cell? ⟨w.heap.size + 1, 16, none⟩ = some (.int .u32 (p.seq : Int)) from cell_of_row _ _ 16 _ _ _ n2) l2
  have c17 := Bel.cell (show W.cell? ⟨w.heap.size, 17, none⟩ = some (.int .u64 (p.mem : Int)) from cell_of_row _ _ 17 _ _ _ n1) l1
  have e17 := Bel.cell (show W.cell? ⟨w.heap.size + 1, 17, none⟩ = some (.int .u64 (p.mem : Int)) from cell_of_row _ _ 17 _ _ _ n2) l2
  have c18 := Bel.cell (show W.cell? ⟨w.heap.size, 18, none⟩ = some (.int .u64 (p.pe : Int)) from cell_of_row _ _ 18 _ _ _ n1) l1
  have e18 := Bel.cell (show W.cell? ⟨w.heap.size + 1, 18, none⟩ = some (.int .u64 (p.pe : Int)) from cell_of_row _ _ 18 _ _ _ n2) l2
  have c19 := Bel.cell (show W.cell? ⟨w.heap.size, 19, none⟩ = some (.int .i64 p.pr) from cell_of_row _ _ 19 _ _ _ n1) l1
  have e19 := Bel.cell (show W.cell? ⟨w.heap.size + 1, 19, none⟩ = some (.int .i64 p.pr) from cell_of_row _ _ 19 _ _ _ n2) l2
  have c20 := Bel.cell (show W.cell? ⟨w.heap.size, 20, none⟩ = some (.int .u64 (p.epoch : Int)) from cell_of_row _ _ 20 _ _ _ n1) l1
  have e20 := Bel.cell (show W.cell? ⟨w.heap.size + 1, 20, none⟩ = some (.int .u64 (p.epoch : Int)) from cell_of_row _ _ 20 _ _ _ n2) l2
  have c21 := Bel.cell (show W.cell? ⟨w.heap.size, 21, none⟩ = some (.slice p.xa p.xs.length p.xc) from cell_of_row _ _ 21 _ _ _ n1) l1
  have e21 := Bel.cell (show W.cell? ⟨w.heap.size + 1, 21, none⟩ = some (.slice xa2 ys.length xc2) from cell_of_row _ _ 21 _ _ _ n2) l2
  obtain ⟨N, hN⟩ : ∃ N, N = w.heap.size := ⟨_, rfl⟩
  rw [← hN] at c0 e0 c1 e1 c2 e2 c3 e3 c4 e4 c5 e5 c6 e6 c7 e7 c8 e8 c9 e9 c10 e10 c11 e11 c12 e12 c13 e13 c14 e14 c15 e15 c16 e16 c17 e17 c18 e18 c19 e19 c20 e20 c21 e21
  have HBW := Lib.hid hbW
  obtain ⟨X0, hX0⟩ : ∃ X : Bel W, X.val = (w.alloc (.cells #[.int .i64 p.kind, .int .i64 p.frm, .int .i64 p.dst, .int .u64 (p.ce : Int), .int .i64 p.cr, .int .i64 p.m.frm, .int .u32 (p.m.seq : Int), .int .u64 (p.m.stamp : Int), .int .i64 p.m.service, .slice p.m.da p.m.ds.length p.m.dc, .string p.m.pay, .int .u64 (p.stamp : Int), .int .u32 (p.sent : Int), .slice p.ga p.got.length p.gc, .int .u64 (p.hor : Int), .int .i64 p.whom, .int .u32 (p.seq : Int), .int .u64 (p.mem : Int), .int .u64 (p.pe : Int), .int .i64 p.pr, .int .u64 (p.epoch : Int), .slice p.xa p.xs.length p.xc] 35)).alloc (.cells #[.int .i64 p.kind, .int .i64 p.frm, .int .i64 p.dst, .int .u64 (p.ce : Int), .int .i64 p.cr, .int .i64 p.m.frm, .int .u32 (p.m.seq : Int), .int .u64 (p.m.stamp : Int), .int .i64 p.m.service, .slice da2 p.m.ds.length dc2, .string p.m.pay, .int .u64 (p.stamp : Int), .int .u32 (p.sent : Int), .slice ga2 p.got.length gc2, .int .u64 (p.hor : Int), .int .i64 p.whom, .int .u32 (p.seq : Int), .int .u64 (p.mem : Int), .int .u64 (p.pe : Int), .int .i64 p.pr, .int .u64 (p.epoch : Int), .slice xa2 ys.length xc2] 35) := ⟨⟨W, br W⟩, hW⟩
  have HC := Lib.hid (And.intro c0 (And.intro e0 (And.intro c1 (And.intro e1 (And.intro c2 (And.intro e2 (And.intro c3 (And.intro e3 (And.intro c4 (And.intro e4 (And.intro c5 (And.intro e5 (And.intro c6 (And.intro e6 (And.intro c7 (And.intro e7 (And.intro c8 (And.intro e8 (And.intro c9 (And.intro e9 (And.intro c10 (And.intro e10 (And.intro c11 (And.intro e11 (And.intro c12 (And.intro e12 (And.intro c13 (And.intro e13 (And.intro c14 (And.intro e14 (And.intro c15 (And.intro e15 (And.intro c16 (And.intro e16 (And.intro c17 (And.intro e17 (And.intro c18 (And.intro e18 (And.intro c19 (And.intro e19 (And.intro c20 (And.intro e20 (And.intro c21 e21)))))))))))))))))))))))))))))))))))))))))))
  clear h1 h2 h3 h4 hc h1' h2' h3' h4' n1 n2 l1 l2 hbW hW c0 e0 c1 e1 c2 e2 c3 e3 c4 e4 c5 e5 c6 e6 c7 e7 c8 e8 c9 e9 c10 e10 c11 e11 c12 e12 c13 e13 c14 e14 c15 e15 c16 e16 c17 e17 c18 e18 c19 e19 c20 e20 c21 e21
  go_enter Try.func12, Try.ntmps12
  go_upto_region 1 with (fail)
  rw [← hX0, ← hN]
  clear hX0 hN
  obtain ⟨c0, e0, c1, e1, c2, e2, c3, e3, c4, e4, c5, e5, c6, e6, c7, e7, c8, e8, c9, e9, c10, e10, c11, e11, c12, e12, c13, e13, c14, e14, c15, e15, c16, e16, c17, e17, c18, e18, c19, e19, c20, e20, c21, e21⟩ := HC.out
  clear HC
  go_wp2_with (first
    | (go_at_call 28; refine (HM.out _).mono ?_; rintro e w' ⟨rfl, X1, rfl⟩)
    | (go_at_call 29; refine (HG.out _).mono ?_; rintro e w' ⟨rfl, X2, rfl⟩)
    | (go_at_call 30; refine (HX.out _).mono ?_; rintro e w' ⟨rfl, X3, rfl⟩))
  go_ret
  exact ⟨rfl, bt HBW.out (Bel.prop _)⟩
theorem coreP_eq {a b : Pkt} (h : coreP a = coreP b) : pktA b = #[.int .i64 a.kind, .int .i64 a.frm, .int .i64 a.dst, .int .u64 (a.ce : Int), .int .i64 a.cr, .int .i64 a.m.frm, .int .u32 (a.m.seq : Int), .int .u64 (a.m.stamp : Int), .int .i64 a.m.service, .slice b.m.da a.m.ds.length b.m.dc, .string a.m.pay, .int .u64 (a.stamp : Int), .int .u32 (a.sent : Int), .slice b.ga a.got.length b.gc, .int .u64 (a.hor : Int), .int .i64 a.whom, .int .u32 (a.seq : Int), .int .u64 (a.mem : Int), .int .u64 (a.pe : Int), .int .i64 a.pr, .int .u64 (a.epoch : Int), .slice b.xa b.xs.length b.xc] ∧ a.xs.map coreX = b.xs.map coreX := by
  obtain ⟨a0, a1, a2, a3, a4, ⟨m0, m1, m2, m3, m4, m5, m6, m7⟩, a6, a7, a8, a9, a10, a11, a12, a13, a14, a15, a16, a17, a18, a19, a20⟩ := a
  obtain ⟨b0, b1, b2, b3, b4, ⟨k0, k1, k2, k3, k4, k5, k6, k7⟩, b6, b7, b8, b9, b10, b11, b12, b13, b14, b15, b16, b17, b18, b19, b20⟩ := b
  simp only [coreP, Pkt.mk.injEq, Msg.mk.injEq, and_true] at h
  obtain ⟨rfl, rfl, rfl, rfl, rfl, ⟨rfl, rfl, rfl, rfl, rfl, rfl⟩, rfl, rfl, rfl, rfl, rfl, rfl, rfl, rfl, rfl, rfl, hx⟩ := h
  exact ⟨rfl, hx⟩
theorem same_any (a b : Pkt) (w : World) (ha : PktOk w a) (hb : PktOk w b) (h : coreP a = coreP b) : Calls Try.prog 12 #[.agg (pktA a), .agg (pktA b)] w fun e w' => e = .returned (.bool true) ∧ Below w.heap.size w w' := by
  obtain ⟨e, hx⟩ := coreP_eq h
  have hg : b.got = a.got := by have := congrArg Pkt.got h; exact this.symm
  have hd : b.m.ds = a.m.ds := by have := congrArg (fun p : Pkt => p.m.ds) h; exact this.symm
  rw [e]
  exact same_pk a b.ga b.m.da b.xa b.gc b.m.dc b.xc b.xs w ha (hg ▸ hb.got) (hd ▸ hb.m.2.2.2) hb.xs hx

end Go.Proofs.Ytgpojbmloielmaa
