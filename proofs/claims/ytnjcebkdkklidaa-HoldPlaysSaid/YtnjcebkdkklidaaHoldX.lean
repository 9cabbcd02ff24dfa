/-
  The law HoldPlays.
  Conditions: none.
-/
import Derived.Test.YtnjcebkdkklidaaHoldWA
namespace Go.Proofs.Ytnjcebkdkklidaa
set_option linter.unusedVariables false
set_option linter.unusedSimpArgs false
open Go.RowKit
theorem PlayAt.zero {B : Nat} {w0 w : World} {D : Nat} (h : HoldAt w D (fun _ => 0) (fun _ => []) (fun _ => .slice none 0 0)) (hb : Below B w0 w) (hz : B ≤ w.heap.size) (hD : B ≤ D) : PlayAt B w0 (w.alloc (.cells zeroX 34)) D w.heap.size 0 lo0 R0 (fun _ => .slice none 0 0) [] (.slice none 0 0) :=
  ⟨⟨⟨h.below (ba (br w) _), .zero, (by
      rintro q (e | ⟨p, _, e⟩)
      · omega
      · cases e), hb.trans ((ba (br w) _).mono hz), Nat.le_trans hz (ba (br w) _).size⟩, heap_alloc_new w _, (RowsAt.nil _).rowsIn, (fun m hm => by cases hm), Nat.le_refl _, (fun p n c e => by cases e), hz⟩, .zero⟩
set_option maxRecDepth 100000 in
set_option maxHeartbeats 32000000 in
theorem law_holdPlays (v : Value) (l : List ActH) (p : Int) (seq : Nat) (most : Int) (a b : Int) (w : World) (h : ActsH w v l) (hm : -9223372036854775808 ≤ most ∧ most ≤ 9223372036854775807) :
    Calls Try.prog 3 #[v, .int .i64 p, .int .u32 (seq : Int), .int .i64 most, .agg #[.int .u64 a, .int .i64 b]] w fun e w' => e = .returned (.bool true) ∧ Below w.heap.size w w' := by
  obtain ⟨W, hW⟩ : ∃ W, W = w.alloc (.cells #[.int .u64 a, .int .i64 b] 26) := ⟨_, rfl⟩
  have hbA := ba (br w) (.cells #[.int .u64 a, .int .i64 b] 26)
  have hxA := heap_alloc_new w (.cells #[.int .u64 a, .int .i64 b] 26)
  rw [← hW] at hbA hxA
  have HH := Lib.hid (h.below hbA)
  have HA := Lib.hid (And.intro hbA hxA)
  have HAw := Lib.hid (awake12_any W)
  have HMO := Lib.hid hm
  obtain ⟨i0, hi, hz0, hz1, hz2⟩ := info_parts info23
  have hzx : ∀ W : World, (zeroValue 34).run Try.prog W = .ok (.agg zeroX) W := zeroX_run
  obtain ⟨ad, cap, rfl, hz⟩ := id h
  obtain ⟨Z, hZ⟩ : ∃ Z, Z = zeroX := ⟨_, rfl⟩
  rw [← hZ] at hzx
  have HZ := Lib.hid hZ
  clear h hz hbA hxA hm hZ
  go_enter Try.func3, Try.ntmps3
  go_upto_region 1 with (fail)
  rw [← hW]
  clear hW
  go_wp2_with fail
  refine HAw.out.mono ?_
  rintro e w1 ⟨rfl, hb1⟩
  have HF := Lib.hid (FewH_any _ l w1 (HH.out.below hb1))
  have HB1 := Lib.hid hb1
  clear HAw hb1
  go_wp2_with fail
  refine HF.out.mono ?_
  rintro e w2 ⟨⟨f, rfl, hf⟩, hb2⟩
  have HF2 := Lib.hid (And.intro hf (bt HB1.out hb2))
  clear HF hf hb2
  cases f
  · go_wp2
    go_ret
    exact ⟨rfl, bt HA.out.1 HF2.out.2⟩
  have hl : l.length ≤ 200 := (HF2.out.1 rfl).1
  have HFO := Lib.hid (fun x hx => ((HF2.out.1 rfl).2 x hx).2)
  have HN := Lib.hid (hNew_any w2)
  have HB2 := Lib.hid HF2.out.2
  clear HF2
  go_wp2_with fail
  refine HN.out.mono ?_
  rintro e w3 ⟨rfl, h3, hb3⟩
  obtain ⟨D, hD⟩ : ∃ D, D = w2.heap.size := ⟨_, rfl⟩
  have hP0 : PlayAt W.heap.size W (w3.alloc (.cells Z 34)) D w3.heap.size 0 lo0 R0 (fun _ => .slice none 0 0) [] (.slice none 0 0) := by
    rw [HZ.out]
    exact PlayAt.zero (hD ▸ h3) (bt HB2.out hb3) (bt HB2.out hb3).size (by rw [hD]; exact HB2.out.size)
  have HP0 := Lib.hid hP0
  rw [← hD]
  clear h3 hb3 hP0 hD HN
  go_upto_region 7 with (fail)
  generalize w3.alloc (.cells Z 34) = W3 at *
  generalize w3.heap.size = M at *
  have HZX := Lib.hid hzx
  clear hzx
  go_wp2_with fail
  go_loopw [13] (fun i wr => ∃ k : Nat, k ≤ l.length ∧ i = .int .i64 (k : Int) ∧ SomePlay W.heap.size W wr D M k) (fun i _ => l.length - (intOf i).toNat)
  case atStart => exact ⟨0, by omega, rfl, _, _, _, _, _, HP0.out⟩
  case round =>
    obtain ⟨k, hk, rfl, lo, R, V, A, vA, hP⟩ := hrel
    by_cases hlt : k < l.length
    · have hbool : decide ((k : Int) < (l.length : Int)) = true := by simpa using hlt
      have hi0 : (k : Int) < (l.length : Int) := by omega
      have hk3 : k ≤ 200 := by omega
      obtain ⟨ad', cap', e0, _, hm⟩ := HH.out.below hP.mid.hold.bel
      obtain ⟨ad2, cap2, e02, _, hm2⟩ := HH.out
      injection e0 with e0 e1 e2
      subst e0
      subst e2
      clear e1
      obtain ⟨g, o, rfl, hg, hrow, hok, hup⟩ := hm k hlt
      injection e02 with e02 e12 e22
      subst e02
      subst e22
      clear e12
      obtain ⟨zB, zO, zE, zb, zr, hokW, zu⟩ := hm2 k hlt
      clear zE zb zr zu zB zO
      have hds := HFO.out _ (List.getElem_mem hlt)
      generalize l[k] = x at hrow hok hup hds hokW
      obtain ⟨xd, xp, xu, xm⟩ := x
      simp only at hrow hok hup hds hokW
      have hrow2 := act_msg hrow
      have z0 : wr.cell? ⟨g, o + k * 9, none⟩ = some (.bool xd) := hrow 0 _ rfl
      have z1 : wr.cell? ⟨g, o + k * 9 + 1, none⟩ = some (.int .i64 xp) := hrow 1 _ rfl
      have z2 : wr.cell? ⟨g, o + k * 9 + 2, none⟩ = some (.int .u32 (xu : Int)) := hrow 2 _ rfl
      have y0 : wr.cell? ⟨g, o + k * 9 + 3, none⟩ = some (.int .i64 xm.frm) := hrow2 0 _ rfl
      have y1 : wr.cell? ⟨g, o + k * 9 + 4, none⟩ = some (.int .u32 (xm.seq : Int)) := hrow2 1 _ rfl
      have y2 : wr.cell? ⟨g, o + k * 9 + 5, none⟩ = some (.int .u64 (xm.stamp : Int)) := hrow2 2 _ rfl
      have y3 : wr.cell? ⟨g, o + k * 9 + 6, none⟩ = some (.int .i64 xm.service) := hrow2 3 _ rfl
      have y4 : wr.cell? ⟨g, o + k * 9 + 7, none⟩ = some (.slice xm.da xm.ds.length xm.dc) := hrow2 4 _ rfl
      have y5 : wr.cell? ⟨g, o + k * 9 + 8, none⟩ = some (.string xm.pay) := hrow2 5 _ rfl
      have hxN := heap_alloc_new wr (.cells #[.bool xd, .int .i64 xp, .int .u32 (xu : Int), .int .i64 xm.frm, .int .u32 (xm.seq : Int), .int .u64 (xm.stamp : Int), .int .i64 xm.service, .slice xm.da xm.ds.length xm.dc, .string xm.pay] 39)
      have hbN := ba (br wr) (.cells #[.bool xd, .int .i64 xp, .int .u32 (xu : Int), .int .i64 xm.frm, .int .u32 (xm.seq : Int), .int .u64 (xm.stamp : Int), .int .i64 xm.service, .slice xm.da xm.ds.length xm.dc, .string xm.pay] 39)
      have HX := Lib.hid (And.intro hxN (And.intro (hP.below hbN) (And.intro (hok.below hbN) (And.intro hup (And.intro hds (And.intro hlt (And.intro (show ∀ ad, xm.da = some ad → 0 < xm.ds.length → ad.block < W.heap.size from fun ad e hn => by
        obtain ⟨B', O', e', hB', _⟩ := hokW.2.2.2.2 0 hn
        rw [e] at e'; injection e' with e'; rw [e']; exact hB') hbN)))))))
      clear hm hm2 hg hrow hrow2 hok hokW hup hds hlt hP hk hxN hbN
      go_upto_if 44 with (fail)
      clear z0 z1 z2 y0 y1 y2 y3 y4 y5
      generalize wr.alloc (.cells #[.bool xd, .int .i64 xp, .int .u32 (xu : Int), .int .i64 xm.frm, .int .u32 (xm.seq : Int), .int .u64 (xm.stamp : Int), .int .i64 xm.service, .slice xm.da xm.ds.length xm.dc, .string xm.pay] 39) = W4 at *
      go_cut [] (fun wx => (∃ lo' R' V' A' vA', PlayAt W.heap.size W wx D M (k + 1) lo' R' V' A' vA') ∧ wx.heap[wr.heap.size]? = some (.cells #[.bool xd, .int .i64 xp, .int .u32 (xu : Int), .int .i64 xm.frm, .int .u32 (xm.seq : Int), .int .u64 (xm.stamp : Int), .int .i64 xm.service, .slice xm.da xm.ds.length xm.dc, .string xm.pay] 39 (0, 0)))
      case first =>
        have q1 : W4.cell? ⟨wr.heap.size, 1, none⟩ = some (.int .i64 xp) := cell_of_row _ _ 1 _ _ _ HX.out.1
        have q2 : W4.cell? ⟨wr.heap.size, 2, none⟩ = some (.int .u32 (xu : Int)) := cell_of_row _ _ 2 _ _ _ HX.out.1
        cases xd
        · -- a Put
          have y0 : W4.cell? ⟨wr.heap.size, 3, none⟩ = some (.int .i64 xm.frm) := cell_of_row _ _ 3 _ _ _ HX.out.1
          have y1 : W4.cell? ⟨wr.heap.size, 4, none⟩ = some (.int .u32 (xm.seq : Int)) := cell_of_row _ _ 4 _ _ _ HX.out.1
          have y2 : W4.cell? ⟨wr.heap.size, 5, none⟩ = some (.int .u64 (xm.stamp : Int)) := cell_of_row _ _ 5 _ _ _ HX.out.1
          have y3 : W4.cell? ⟨wr.heap.size, 6, none⟩ = some (.int .i64 xm.service) := cell_of_row _ _ 6 _ _ _ HX.out.1
          have y4 : W4.cell? ⟨wr.heap.size, 7, none⟩ = some (.slice xm.da xm.ds.length xm.dc) := cell_of_row _ _ 7 _ _ _ HX.out.1
          have y5 : W4.cell? ⟨wr.heap.size, 8, none⟩ = some (.string xm.pay) := cell_of_row _ _ 8 _ _ _ HX.out.1
          clear q1 q2
          go_upto_region 15 with (fail)
          have hx5 := heap_alloc_new W4 (.cells #[.int .i64 xm.frm, .int .u32 (xm.seq : Int), .int .u64 (xm.stamp : Int), .int .i64 xm.service, .slice xm.da xm.ds.length xm.dc, .string xm.pay] 37)
          have hb5 := ba (br W4) (.cells #[.int .i64 xm.frm, .int .u32 (xm.seq : Int), .int .u64 (xm.stamp : Int), .int .i64 xm.service, .slice xm.da xm.ds.length xm.dc, .string xm.pay] 37)
          clear y0 y1 y2 y3 y4 y5
          generalize W4.alloc (.cells #[.int .i64 xm.frm, .int .u32 (xm.seq : Int), .int .u64 (xm.stamp : Int), .int .i64 xm.service, .slice xm.da xm.ds.length xm.dc, .string xm.pay] 37) = W5 at *
          have e5 := (hb5.block _ (Array.getElem?_eq_some_iff.1 HX.out.1).1).trans HX.out.1
          have y4 : W5.cell? ⟨wr.heap.size, 7, none⟩ = some (.slice xm.da xm.ds.length xm.dc) := cell_of_row _ _ 7 _ _ _ e5
          have n4 := World.new_ne W5 ⟨wr.heap.size, 7, none⟩ y4
          have own1 := ownNil W5 W5.heap.size 23 1 (Nat.le_refl _)
          have hbE := ba (br W5) (.cells #[] 23)
          have HRd := Lib.hid ((HX.out.2.2.1.below (bt hb5 hbE)).deps)
          have hd20 : xm.ds.length ≤ 20000 := HX.out.2.2.2.2.1
          have HO := Lib.hid (And.intro own1 (And.intro hbE (And.intro hx5 hb5)))
          have hx5c : W5.cell? ⟨W4.heap.size, 4, none⟩ = some (.slice xm.da xm.ds.length xm.dc) := cell_of_row _ _ 4 _ _ _ hx5
          have y4' : (W5.alloc (.cells #[] 23)).cell? ⟨wr.heap.size, 7, none⟩ = some (.slice xm.da xm.ds.length xm.dc) := (hbE.cell (p := ⟨wr.heap.size, 7, none⟩) (Array.getElem?_eq_some_iff.1 e5).1).trans y4
          clear hx5 hb5 e5 own1 hbE y4 n4
          go_wp2_with (at_builtin; refine wpList_append_any _ rfl (.tmp 59) (.tmp 62) 35 rfl W5.heap.size 23 i0 _ 1 4 Try.underlying35 hi hz0 hz1 hz2 rfl (by decide) _ 0 [] rfl HO.out.1 _ xm.da xm.ds.length xm.dc (numsM xm.ds) rfl HRd.out (numsM_one _) (by unfold maxLen; omega) (by omega) (by simp) ?_)
          intro v6 w6 ho6 hg6 hu6
          have hb6 := grownB HO.out.2.1 HO.out.2.1.size hg6 (fun b hb => (HO.out.1.lt b hb).1)
          obtain ⟨a6, c6, rfl⟩ := ownForm ho6
          obtain ⟨y, hy⟩ : ∃ y : Msg, y = ⟨xm.frm, xm.seq, xm.stamp, xm.service, xm.ds, xm.pay, a6, c6⟩ := ⟨_, rfl⟩
          have x6 := (hb6.block _ (Array.getElem?_eq_some_iff.1 HO.out.2.2.1).1).trans HO.out.2.2.1
          have c6' : w6.cell? ⟨W4.heap.size, 4, none⟩ = some (.slice xm.da xm.ds.length xm.dc) := cell_of_row _ _ 4 _ _ _ x6
          have f6 : w6.frozen? ⟨W4.heap.size, 4, none⟩ = false := frozen_of_row _ _ _ _ _ x6
          have x7 : (w6.setCell ⟨W4.heap.size, 4, none⟩ (.slice a6 xm.ds.length c6)).heap[W4.heap.size]? = some (.cells (msgA y) 37 (0, 0)) := by
            rw [hy]; exact setCell_block x6 4 _
          have hk7 : Kept (fun b => b = W4.heap.size) w6 (w6.setCell ⟨W4.heap.size, 4, none⟩ (.slice a6 xm.ds.length c6)) := (show Kept (fun b => b = W4.heap.size) w6 w6 from .refl _ _).setCell (p := ⟨W4.heap.size, 4, none⟩) rfl _
          have hb7 : Below W4.heap.size W4 (w6.setCell ⟨W4.heap.size, 4, none⟩ (.slice a6 xm.ds.length c6)) := bs (bt HO.out.2.2.2 hb6) (p := ⟨W4.heap.size, 4, none⟩) (Nat.le_refl _) _
          have hf7 : FreshM W4.heap.size (w6.setCell ⟨W4.heap.size, 4, none⟩ (.slice a6 xm.ds.length c6)) y := by
            have ho7 := ownMore (own_keptS ho6 hk7 (fun b hb e => own_blk_ne ho6 x6 (by decide) (e ▸ hb))) HO.out.2.2.2.size
            obtain ⟨p1, p2, p3, p4, _⟩ := HX.out.2.2.1
            rw [hy]
            exact ⟨.of_own p1 p2 p3 p4 ho7, ho7⟩
          have hcy : core y = core xm := by rw [hy]; rfl
          have hpy : putK lo R y = putA A xm := by rw [HX.out.2.1.ref.putA, hy]; rfl
          have hyd : y.ds.length ≤ 20000 := by rw [hy]; exact hd20
          go_upto_region 16 with (fail)
          generalize w6.setCell ⟨W4.heap.size, 4, none⟩ (.slice a6 xm.ds.length c6) = W7 at *
          have HPu := Lib.hid (playPut_any (HX.out.2.1.below hb7).mid (by omega) y hf7.1 hyd)
          obtain ⟨z, hz⟩ : ∃ z, z = putA A xm := ⟨_, rfl⟩
          rw [hpy, ← hz] at HPu
          have H7 := Lib.hid (And.intro x7 (And.intro hb7 (And.intro hf7 (And.intro hcy (And.intro hz hyd)))))
          clear ho6 hg6 hu6 hb6 x6 c6' f6 x7 hk7 hb7 hf7 hcy hpy hyd hz y4' hx5c hy
          go_wp2_with (with_reducible refine wpList_load_row rfl 37 (.tmp 15) rfl W4.heap.size rfl 37 (msgA y) (0, 0) _ H7.out.1 Try.underlying37 rfl (by kernel_rfl) ?_)
          refine HPu.out.mono ?_
          rintro e w8 ⟨rfl, h8⟩
          have H8 := Lib.hid h8
          obtain ⟨hk8, R8, V8, m8, _⟩ := h8
          have e7 := (H7.out.2.1.block _ (Array.getElem?_eq_some_iff.1 HX.out.1).1).trans HX.out.1
          have e8 := hk8.keep e7 ((HX.out.2.1.below H7.out.2.1).mid.hold.at_.typ_not e7 (by decide) (by decide))
          have x8 := hk8.keep H7.out.1 (fun hin => by have := HX.out.2.1.mid.hold.at_.in_ hin; omega)
          have hr8 : w8.rangeAt wr.heap.size 3 (msgA xm).toList := fun j u hu => by
            rw [show w8.cell? ⟨wr.heap.size, 3 + j, none⟩ = _ from cell_of_row _ _ _ _ _ _ e8]
            have hj : j < 6 := (List.getElem?_eq_some_iff.1 hu).1
            match j, hj, hu with
            | 0, _, hu => exact hu
            | 1, _, hu => exact hu
            | 2, _, hu => exact hu
            | 3, _, hu => exact hu
            | 4, _, hu => exact hu
            | 5, _, hu => exact hu
          have HRP := Lib.hid (rPut_any vA lo A xm w8 m8.rows (by have := m8.len; omega) HX.out.2.2.1.2.2.1)
          have HR8 := Lib.hid (And.intro hr8 (And.intro m8.blk x8))
          have hzx := HZX.out
          clear hk8 m8 e7 e8 x8 hr8
          go_wp2_with (first
            | (with_reducible refine wpList_load_row rfl 34 (.tmp 12) rfl M rfl 34 (refX vA lo) (0, 0) _ HR8.out.2.1 Try.underlying34 rfl sizeX ?_)
            | (with_reducible refine wpList_load_mid rfl 37 (.tmp 70) rfl wr.heap.size 3 rfl (msgA xm).toList _ HR8.out.1 Try.underlying37 rfl (by kernel_rfl) ?_)
            | fail)
          refine HRP.out.mono ?_
          rintro e w9 ⟨⟨u, hre, hu, hor⟩, hb9⟩
          rw [← H7.out.2.2.2.2.1] at hre
          subst hre
          have hv : u.oneCell' = true := by obtain ⟨_, _, rfl, _⟩ := hu; rfl
          have hx10 := heap_alloc_new w9 (.cells Z 34)
          have hb10 := ba (br w9) (.cells Z 34)
          have hU := Lib.hid (And.intro hu (And.intro hor (And.intro hb9 hv)))
          clear hu hor hb9 hv
          go_upto_region 18 with (first
            | (with_reducible refine wpList_store_row rfl 34 (.tmp 17) (.tmp 73) rfl w9.heap.size (refX u lo) rfl rfl 34 Z hx10 sizeX (by rw [HZ.out]; unfold zeroX; rw [refX_size, refX_size]) (refX_one _ _ hU.out.2.2.2) ?_)
            | fail)
          have e10 := setRow_heap _ _ _ (refX u lo) _ _ hx10
          have hb10' : Below w9.heap.size w9 ((w9.alloc (.cells Z 34)).setRow w9.heap.size (refX u lo)) := (setRow_kept _ _ _).out hb10 hb10.size (fun b hb e => by omega)
          clear hx10 hb10
          generalize (w9.alloc (.cells Z 34)).setRow w9.heap.size (refX u lo) = w10 at *
          obtain ⟨f1, ⟨R', V', A', hP', hF', eN', hd'⟩, hpk⟩ := playPut_mid HX.out.2.1 HX.out.1 H7.out.2.1 H7.out.2.2.1 H7.out.2.2.2.1 HX.out.2.2.1 HX.out.2.2.2.2.2.2.1 H8.out hU.out.2.2.1 hU.out.1 hU.out.2.1 hb10'
          have x10 := ((bt hU.out.2.2.1 hb10').block _ (Array.getElem?_eq_some_iff.1 HR8.out.2.2).1).trans HR8.out.2.2
          have x11 := (setRow_kept w10 M (refX u lo)).keep x10 (blk_ne x10 f1 (by decide))
          have HQ := Lib.hid (And.intro hP' (And.intro hF' (And.intro eN' (And.intro hd' x11))))
          clear hP' hF' eN' hd' x10 x11 hpk hb10'
          go_upto_region 19 with (first
            | (with_reducible refine wpList_load_row rfl 34 (.tmp 17) rfl w9.heap.size rfl 34 (refX u lo) (0, 0) _ e10 Try.underlying34 rfl sizeX ?_)
            | (with_reducible refine wpList_store_row rfl 34 (.tmp 12) (.tmp 75) rfl M (refX u lo) rfl rfl 34 _ f1 sizeX (by rw [refX_size, refX_size]) (refX_one _ _ hU.out.2.2.2) ?_)
            | fail)
          clear e10 f1
          generalize w10.setRow M (refX u lo) = w11 at *
          have y0 : w11.cell? ⟨W4.heap.size, 0, none⟩ = some (.int .i64 y.frm) := cell_of_row _ _ 0 _ _ _ HQ.out.2.2.2.2
          have y1 : w11.cell? ⟨W4.heap.size, 1, none⟩ = some (.int .u32 (y.seq : Int)) := cell_of_row _ _ 1 _ _ _ HQ.out.2.2.2.2
          have y2 : w11.cell? ⟨W4.heap.size, 2, none⟩ = some (.int .u64 (y.stamp : Int)) := cell_of_row _ _ 2 _ _ _ HQ.out.2.2.2.2
          have y3 : w11.cell? ⟨W4.heap.size, 3, none⟩ = some (.int .i64 y.service) := cell_of_row _ _ 3 _ _ _ HQ.out.2.2.2.2
          have y4 : w11.cell? ⟨W4.heap.size, 4, none⟩ = some (.slice y.da y.ds.length y.dc) := cell_of_row _ _ 4 _ _ _ HQ.out.2.2.2.2
          have y5 : w11.cell? ⟨W4.heap.size, 5, none⟩ = some (.string y.pay) := cell_of_row _ _ 5 _ _ _ HQ.out.2.2.2.2
          have hb12 := ba (br w11) (.cells (msgA y) 37)
          have hle : W4.heap.size ≤ w11.heap.size := Nat.le_of_lt (Array.getElem?_eq_some_iff.1 HQ.out.2.2.2.2).1
          have hs12 := SpOk.of_own (w := w11.alloc (.cells (msgA y) 37)) (L := [y]) (ad := some ⟨w11.heap.size, 0, none⟩) (cap := 1) (B := W4.heap.size) (by
            have h1 := ownOne w11 w11.heap.size 37 (msgA y) 6 rfl (Nat.le_refl _)
            rw [show (msgA y).toList = rowsM [y] from by simp [rowsM]] at h1
            exact ownMore h1 hle) (fun m hm => by simp at hm; rw [hm]; exact HQ.out.2.1.below hb12)
          have HSp := Lib.hid (spoil_any _ 1 _ _ hs12 (by simp) (fun m hm => by simp at hm; rw [hm]; have := H7.out.2.2.2.2.2; omega))
          have HB12 := Lib.hid hb12
          clear hs12 hb12 hle
          go_wp2_with fail
          refine HSp.out.mono ?_
          rintro e w13 ⟨rfl, hk13⟩
          obtain ⟨r1, r2⟩ := playSpoil_end HQ.out.1 HQ.out.2.2.1 HQ.out.2.2.2.1 HB12.out hk13
          go_wp2_with fail
          go_meet
          exact ⟨⟨_, _, _, _, _, r1⟩, r2⟩
        · -- a Drop
          have HDr := Lib.hid (playDrop_any HX.out.2.1.mid (by omega) xp xu HX.out.2.2.2.1)
          go_wp2_with fail
          refine HDr.out.mono ?_
          rintro e w5 ⟨rfl, hk5, V5, h5⟩
          have e5 := hk5.keep HX.out.1 (HX.out.2.1.mid.hold.at_.typ_not HX.out.1 (by decide) (by decide))
          clear q1 q2
          have q1 : w5.cell? ⟨wr.heap.size, 1, none⟩ = some (.int .i64 xp) := cell_of_row _ _ 1 _ _ _ e5
          have q2 : w5.cell? ⟨wr.heap.size, 2, none⟩ = some (.int .u32 (xu : Int)) := cell_of_row _ _ 2 _ _ _ e5
          have HR5 := Lib.hid (rDrop_any vA lo A xp xu w5 h5.rows (by have := h5.len; omega))
          rw [HX.out.2.1.ref.dropA xp xu] at HR5
          have H5 := Lib.hid (And.intro hk5 h5)
          clear hk5 h5 e5
          go_wp2_with (with_reducible refine wpList_load_row rfl 34 (.tmp 12) rfl M rfl 34 (refX vA lo) (0, 0) _ H5.out.2.blk Try.underlying34 rfl sizeX ?_)
          refine HR5.out.mono ?_
          rintro e w6 ⟨rfl, hb6⟩
          have HE := Lib.hid (playDrop_end HX.out.2.1 HX.out.1 H5.out.2 H5.out.1 hb6)
          have hv : vA.oneCell' = true := by obtain ⟨_, _, rfl, _⟩ := H5.out.2.rows; rfl
          have HV := Lib.hid hv
          clear hb6 hv
          go_wp2_with (with_reducible refine wpList_store_row rfl 34 (.tmp 12) (.tmp 56) rfl M (refX vA (dropLo lo R xp xu)) rfl rfl 34 _ HE.out.1 sizeX (by rw [refX_size, refX_size]) (refX_one _ _ HV.out) ?_)
          go_meet
          exact ⟨⟨_, _, _, _, _, HE.out.2.1⟩, HE.out.2.2⟩
      case rest =>
        obtain ⟨⟨lo2, R2, V2, A2, vA2, hP2⟩, hN2⟩ := hcut
        have hkl := HX.out.2.2.2.2.2.1
        clear HX
        have HKL := Lib.hid hkl
        have hk4 : k + 1 ≤ 400 := by omega
        have HG := Lib.hid (playGet_any hP2 hk4 p seq)
        have HR := Lib.hid (fun w' (hb : Below wc.heap.size wc w') => playGetR_any (hP2.below hb) hk4 p seq)
        have hoy := hP2.getOk p seq
        generalize getA A2 lo2 p seq = o2 at HG HR hoy
        obtain ⟨f, hf⟩ : ∃ f, f = o2.isSome := ⟨_, rfl⟩
        obtain ⟨y, hy⟩ : ∃ y, y = o2.getD zeroM := ⟨_, rfl⟩
        unfold GotEnd at HG
        rw [← hf, ← hy] at HR HG
        rw [← hy] at hoy
        have HP2 := Lib.hid (And.intro hP2 (And.intro hN2 hoy))
        clear hP2 hN2 hoy hf hy hkl o2
        go_wp2_with fail
        refine HG.out.mono ?_
        rintro e w1 ⟨⟨m', rfl, hc, hok⟩, hb1⟩
        have hz : msgA zeroM = #[.int .i64 0, .int .u32 0, .int .u64 0, .int .i64 0, .slice none 0 0, .string ⟨#[]⟩] := rfl
        have hxa := heap_alloc_new w1 (.cells (msgA zeroM) 37)
        have hba := ba (br w1) (.cells (msgA zeroM) 37)
        rw [hz] at hxa hba
        have HC := Lib.hid (And.intro hc (And.intro hok (And.intro hb1 hba)))
        clear hc hok hb1 hba hz HG
        obtain ⟨X, hX⟩ : ∃ X, X = msgA m' := ⟨_, rfl⟩
        have HXX := Lib.hid (show (Try.prog.info? 37).map (·.size) = some X.size ∧ X.size = 6 ∧ X.all (·.oneCell') = true from by rw [hX]; exact ⟨by kernel_rfl, rfl, msgA_all m'⟩)
        rw [← hX]
        have HXE := Lib.hid hX
        clear hX
        go_upto_region 23 with (first
          | (refine wpList_store_row rfl 37 (.tmp 19) (.tmp 87) rfl w1.heap.size X rfl rfl 37 _ hxa HXX.out.1 (show 6 = X.size from HXX.out.2.1.symm) HXX.out.2.2 ?_)
          | fail)
        have x1 := setRow_heap _ _ _ X _ _ hxa
        rw [HXE.out] at x1 ⊢
        have hk1 : Below wc.heap.size wc ((w1.alloc (.cells #[.int .i64 0, .int .u32 0, .int .u64 0, .int .i64 0, .slice none 0 0, .string ⟨#[]⟩] 37)).setRow w1.heap.size (msgA m')) := (setRow_kept _ _ _).out (bt HC.out.2.2.1 HC.out.2.2.2) (bt HC.out.2.2.1 HC.out.2.2.2).size (fun b hb e => by have := HC.out.2.2.1.size; omega)
        have ok1 := (HC.out.2.1.below HC.out.2.2.2).kept (setRow_kept _ w1.heap.size (msgA m')) (fun ad e hn hb => by obtain ⟨B', O', e', hB', _⟩ := HC.out.2.1.2.2.2.2 0 hn; rw [e] at e'; injection e' with e'; rw [e'] at hb; simp only at hb; omega)
        have HC2 := Lib.hid (And.intro HC.out.1 (And.intro ok1 (And.intro hk1 x1)))
        clear hxa x1 hk1 ok1 HC
        generalize (w1.alloc (.cells #[.int .i64 0, .int .u32 0, .int .u64 0, .int .i64 0, .slice none 0 0, .string ⟨#[]⟩] 37)).setRow w1.heap.size (msgA m') = w2 at *
        have HP3 := Lib.hid (HP2.out.1.below HC2.out.2.2.1)
        obtain ⟨Y, hY⟩ : ∃ Y, Y = msgA y := ⟨_, rfl⟩
        have HYY := Lib.hid (show (Try.prog.info? 37).map (·.size) = some Y.size ∧ Y.size = 6 ∧ Y.all (·.oneCell') = true from by rw [hY]; exact ⟨by kernel_rfl, rfl, msgA_all y⟩)
        rw [← hY] at HR
        have HYE := Lib.hid hY
        clear hY
        have hm3 := HP3.out.mid.blk
        go_wp2_with (refine wpList_load_row rfl 34 (.tmp 12) rfl M rfl 34 (refX vA2 lo2) (0, 0) _ hm3 Try.underlying34 rfl sizeX ?_)
        refine (HR.out w2 HC2.out.2.2.1).mono ?_
        rintro e w3 ⟨rfl, hb3⟩
        have hxa := heap_alloc_new w3 (.cells (msgA zeroM) 37)
        have hba := ba (br w3) (.cells (msgA zeroM) 37)
        rw [show msgA zeroM = #[.int .i64 0, .int .u32 0, .int .u64 0, .int .i64 0, .slice none 0 0, .string ⟨#[]⟩] from rfl] at hxa hba
        have HB3 := Lib.hid (And.intro hb3 hba)
        clear hm3 hb3 hba
        go_upto_region 24 with (first
          | (refine wpList_store_row rfl 37 (.tmp 21) (.tmp 94) rfl w3.heap.size Y rfl rfl 37 _ hxa HYY.out.1 (show 6 = Y.size from HYY.out.2.1.symm) HYY.out.2.2 ?_)
          | fail)
        have x2 := setRow_heap _ _ _ Y _ _ hxa
        have hk2 : Below w2.heap.size w2 ((w3.alloc (.cells #[.int .i64 0, .int .u32 0, .int .u64 0, .int .i64 0, .slice none 0 0, .string ⟨#[]⟩] 37)).setRow w3.heap.size Y) := (setRow_kept _ _ _).out (bt HB3.out.1 HB3.out.2) (bt HB3.out.1 HB3.out.2).size (fun b hb e => by have := HB3.out.1.size; omega)
        have HC3 := Lib.hid (And.intro hk2 x2)
        clear hxa x2 hk2 HB3
        generalize (w3.alloc (.cells #[.int .i64 0, .int .u32 0, .int .u64 0, .int .i64 0, .slice none 0 0, .string ⟨#[]⟩] 37)).setRow w3.heap.size Y = w4 at *
        have HP4 := Lib.hid (HP3.out.below HC3.out.1)
        have hx4 := (HC3.out.1.block _ (Array.getElem?_eq_some_iff.1 HC2.out.2.2.2).1).trans HC2.out.2.2.2
        have hn4 := ((bt HC2.out.2.2.1 HC3.out.1).block _ (Array.getElem?_eq_some_iff.1 HP2.out.2.1).1).trans HP2.out.2.1
        have RX := Lib.hid (Bel.range (w := w4) (b := w1.heap.size) (o := 0) (cs := X.toList) (fun j u hu => (cell_of_row _ _ _ _ _ _ hx4).trans (by rw [HXE.out] at hu; simpa using hu)) (Array.getElem?_eq_some_iff.1 hx4).1)
        have RY := Lib.hid (Bel.range (w := w4) (b := w3.heap.size) (o := 0) (cs := Y.toList) (fun j u hu => (cell_of_row _ _ _ _ _ _ HC3.out.2).trans (by simpa using hu)) (Array.getElem?_eq_some_iff.1 HC3.out.2).1)
        have RM := Lib.hid (Bel.range (w := w4) (b := M) (o := 0) (cs := (refX vA2 lo2).toList) (fun j u hu => (cell_of_row _ _ _ _ _ _ HP4.out.mid.blk).trans (by simpa using hu)) (Array.getElem?_eq_some_iff.1 HP4.out.mid.blk).1)
        have c1 := Bel.cell (cell_of_row _ _ 1 _ _ _ hn4 : w4.cell? ⟨wr.heap.size, 1, none⟩ = some (.int .i64 xp)) (Array.getElem?_eq_some_iff.1 hn4).1
        have HSa := Lib.hid (show ∀ Z : Bel w4, Calls Try.prog 17 #[.agg X, .agg Y] Z.val fun e w' => e = .returned (.bool true) ∧ Below Z.val.heap.size Z.val w' from fun Z => by
          have := Same_any m' y Z.val (HC2.out.2.1.below (bt HC3.out.1 Z.prop)) (HP2.out.2.2.below (bt HC2.out.2.2.1 (bt HC3.out.1 Z.prop)))
          rw [core_same, HC2.out.1, decide_eq_true rfl, ← HXE.out, ← HYE.out] at this
          exact this)
        have HCo := Lib.hid (show ∀ Z : Bel w4, Calls Try.prog 18 #[.pointer (some ⟨D, 0, none⟩), .int .i64 xp] Z.val fun e w' => e = .returned (.int .u32 (cntA A2 xp : Int)) ∧ Below Z.val.heap.size Z.val w' from fun Z => playCount_any (HP4.out.below Z.prop) hk4 xp)
        have HCr := Lib.hid (show ∀ Z : Bel w4, Calls Try.prog 19 #[.agg (refX vA2 lo2), .int .i64 xp] Z.val fun e w' => e = .returned (.int .u32 (cntA A2 xp : Int)) ∧ Below Z.val.heap.size Z.val w' from fun Z => playCountR_any (HP4.out.below Z.prop) hk4 xp)
        have HCC := Lib.hid (And.intro (bt HC2.out.2.2.1 HC3.out.1) hn4)
        clear hx4 hn4
        go_cut [115] (fun q wx => q = .bool false ∧ Below w4.heap.size w4 wx)
        case first =>
          refine wp_region_bel (by kernel_rfl) (by kernel_rfl) ?_
          repeat (first
            | (refine wpQuiet_load_want (by rfl) 37 (.tmp 19) rfl w1.heap.size 0 rfl X.toList _ RX.out Try.underlying37 rfl (by rw [Array.length_toList]; exact HXX.out.1) ?_; go_simp)
            | (refine wpQuiet_load_want (by rfl) 37 (.tmp 21) rfl w3.heap.size 0 rfl Y.toList _ RY.out Try.underlying37 rfl (by rw [Array.length_toList]; exact HYY.out.1) ?_; go_simp)
            | (refine wpQuiet_load_want (by rfl) 34 (.tmp 12) rfl M 0 rfl (refX vA2 lo2).toList _ RM.out Try.underlying34 rfl (by rw [Array.length_toList]; exact sizeX) ?_; go_simp)
            | go_big_quiet_step ((first | (go_at_call 17; exact bel_call (HSa.out _)) | (go_at_call 18; exact bel_call (HCo.out _)) | (go_at_call 19; exact bel_call (HCr.out _)))))
          refine wpQuiet_nil ?_
          intro x5
          have hb5 := x5.prop
          generalize x5.val = w5 at *
          go_wp2_with fail
          go_meet
          exact ⟨rfl, hb5⟩
        case rest =>
        obtain ⟨rfl, hbc⟩ := hcut
        have HP5 := Lib.hid (HP4.out.below hbc)
        clear hbc c1 RX RY RM HSa HCo HCr HP4 HC3 HCC HP3 HC2 HP2 HR HXX HXE HYY HYE
        go_upto_region 26 with (fail)
        generalize hg1 : w1.heap.size = N1 at *
        generalize hg3 : w3.heap.size = N3 at *
        clear hg1 hg3
        have HS := Lib.hid (show ∀ w', Below wc.heap.size wc w' → w'.cell? ⟨w.heap.size, 0, none⟩ = some (.int .u64 a) ∧ w'.cell? ⟨w.heap.size, 1, none⟩ = some (.int .i64 b) from fun w' hb => by
          have h1 := ((bt HP5.out.mid.hold.bel hb).block _ (Array.getElem?_eq_some_iff.1 HA.out.2).1).trans HA.out.2
          exact ⟨cell_of_row _ _ 0 _ _ _ h1, cell_of_row _ _ 1 _ _ _ h1⟩)
        have HFm := Lib.hid (show ∀ W', Below wc.heap.size wc W' → Calls Try.prog 20 #[.pointer (some ⟨D, 0, none⟩), .int .i64 p, .int .u32 (seq : Int), .int .i64 most] W' fun e w' => CopyEnd W' ((fromA A2 lo2 p seq (cntA A2 p)).take most.toNat) e w' ∧ Below W'.heap.size W' w' from fun W' hb => playFrom_any (HP5.out.below hb) hk4 p seq most HMO.out.2)
        have HAb := Lib.hid (show ∀ W', Below wc.heap.size wc W' → Calls Try.prog 21 #[.pointer (some ⟨D, 0, none⟩), .agg #[.int .u64 a, .int .i64 b]] W' fun e w' => CopyEnd W' (sortM (aboveA A2 lo2 a b 64)) e w' ∧ Below W'.heap.size W' w' from fun W' hb => playAbove_any (HP5.out.below hb) hk4 a b)
        refine wp_region_mask (fun w' => w'.cell? ⟨w.heap.size, 0, none⟩ = some (.int .u64 a) ∧ w'.cell? ⟨w.heap.size, 1, none⟩ = some (.int .i64 b)) 8 4 [true, true, true, true, false, true, true, false, false, false] #[true, true, true, true, false, true, true, false, false, false] (by kernel_rfl) (by kernel_rfl) (by kernel_rfl) (HS.out _ (br wc).drew) ?_
        have HB5 := Lib.hid (show Below wc.heap.size wc wc.drew from (br wc).drew)
        generalize wc.drew = W5 at *
        iterate 4
          refine wpMask_take _ (Or.inl ⟨by rfl, fun w' hS => by (try dsimp only at hS); go_simp; try with_reducible rfl⟩) ?_
          simp only [Act.put, List.setIfInBounds_toArray, List.set_cons_zero, List.set_cons_succ]
        refine wpMask_skip ?_
        iterate 2
          refine wpMask_take _ (Or.inl ⟨by rfl, fun w' hS => by (try dsimp only at hS); go_simp; try with_reducible rfl⟩) ?_
          simp only [Act.put, List.setIfInBounds_toArray, List.set_cons_zero, List.set_cons_succ]
        refine wpMask_skip (wpMask_skip (wpMask_skip (wpMask_nil ?_)))
        refine wpAnyS_ready (rs := [4]) (by kernel_rfl) (by simp) ?_
        refine AllReadyS.cons rfl (fun K hK => ?_) AllReadyS.nil
        go_simp
        refine (HFm.out _ HB5.out).mono ?_
        rintro e w6 ⟨⟨v1, L1, rfl, ho1, hc1, hf1⟩, hb6⟩
        refine hK.out _ _ (fun _ => HS.out _ (bt HB5.out hb6)) ?_
        clear hK K
        simp only [Act.put, List.setIfInBounds_toArray, List.set_cons_zero, List.set_cons_succ]
        refine wpAnyS_ready (rs := [7]) (by kernel_rfl) (by simp) ?_
        refine AllReadyS.cons rfl (fun K hK => ?_) AllReadyS.nil
        go_simp
        refine (HAb.out _ (bt HB5.out hb6)).mono ?_
        rintro e w7 ⟨⟨v2, L2, rfl, ho2, hc2, hf2⟩, hb7⟩
        refine hK.out _ _ (fun _ => HS.out _ (bt (bt HB5.out hb6) hb7)) ?_
        clear hK K
        simp only [Act.put, List.setIfInBounds_toArray, List.set_cons_zero, List.set_cons_succ]
        refine wpAnyS_ready (rs := [8]) (by kernel_rfl) (by simp) ?_
        refine AllReadyS.cons rfl (fun K hK => ?_) AllReadyS.nil
        go_simp
        refine hK.out _ _ (fun h => absurd h (by omega)) ?_
        clear hK K
        simp only [Act.put, List.setIfInBounds_toArray, List.set_cons_zero, List.set_cons_succ]
        refine wpAnyS_ready (rs := [9]) (by kernel_rfl) (by simp) ?_
        refine AllReadyS.cons rfl (fun K hK => ?_) AllReadyS.nil
        go_simp
        refine hK.out _ _ (fun h => absurd h (by omega)) ?_
        clear hK K
        simp only [Act.put, List.setIfInBounds_toArray, List.set_cons_zero, List.set_cons_succ]
        have hl1 : L1.length ≤ 1000 := by
          have h0 := congrArg List.length hc1
          have h1 := fromA_len A2 lo2 p seq (cntA A2 p)
          have h2 : cntA A2 p ≤ A2.length := ofP_len A2 p
          have h3 := HP5.out.refLen hk4
          simp only [List.length_map, List.length_take] at h0
          omega
        have hl2 : L2.length ≤ 1000 := by
          have h0 := congrArg List.length hc2
          have h1 := HP5.out.aboveLen hk4 a b 64 (by omega)
          simp only [List.length_map, sortM_len] at h0
          omega
        have HMs := Lib.hid (And.intro (copy_msgs ho1 hf1 hl1) (copy_msgs ho2 hf2 hl2))
        obtain ⟨a1, c1, rfl⟩ := ownForm ho1
        obtain ⟨a2, c2, rfl⟩ := ownForm ho2
        have HL1 := Lib.hid (And.intro ho1 (And.intro hf1 (And.intro hl1 hc1)))
        have HL2 := Lib.hid (And.intro ho2 (And.intro hf2 (And.intro hl2 hc2)))
        have HB7 := Lib.hid (And.intro hb6 hb7)
        have HP7 := Lib.hid (HP5.out.below (bt (bt HB5.out hb6) hb7))
        clear ho1 hf1 hl1 hc1 ho2 hf2 hl2 hc2 hb6 hb7 HAb HFm
        refine wpAnyS_done (by kernel_rfl) ?_ _
        have hm7 := HP7.out.mid.blk
        have HRF := Lib.hid (playFromR_any HP7.out hk4 p seq most)
        go_wp2_with (refine wpList_load_row rfl 34 (.tmp 12) rfl M rfl 34 (refX vA2 lo2) (0, 0) _ hm7 Try.underlying34 rfl sizeX ?_)
        refine HRF.out.mono ?_
        rintro e w8 ⟨⟨v8, rfl, hm8⟩, hb8⟩
        have HAl := Lib.hid (All_any (.slice a1 L1.length c1) v8 L1 _ w8 (HMs.out.1.below (bt HB7.out.2 hb8)) hm8)
        rw [allM_core HL1.out.2.2.2] at HAl
        clear hm7 HRF hm8
        have HB8 := Lib.hid hb8
        clear hb8
        go_wp2_with fail
        refine HAl.out.mono ?_
        rintro e w9 ⟨rfl, hb9⟩
        have hb79 := bt HB8.out hb9
        have HP9 := Lib.hid (HP7.out.below hb79)
        have HB9 := Lib.hid hb79
        have hm9 := HP9.out.mid.blk
        have HRA := Lib.hid (playAboveR_any HP9.out hk4 a b)
        obtain ⟨k0, k1⟩ := HS.out w9 (bt (bt (bt HB5.out HB7.out.1) HB7.out.2) hb79)
        clear hb9 hb79 HAl HB8
        go_wp2_with (refine wpList_load_row_want (by rfl) 34 (.tmp 12) rfl M rfl 34 (refX vA2 lo2) (0, 0) _ hm9 Try.underlying34 rfl sizeX ?_)
        refine HRA.out.mono ?_
        rintro e w10 ⟨⟨v10, rfl, hm10⟩, hb10⟩
        have HAl := Lib.hid (All_any (.slice a2 L2.length c2) v10 L2 _ w10 (HMs.out.2.below (bt HB9.out hb10)) hm10)
        rw [allM_core HL2.out.2.2.2] at HAl
        have HB10 := Lib.hid (bt HB9.out hb10)
        clear hb10 hm10 k0 k1 hm9 HRA
        go_wp2_with fail
        refine HAl.out.mono ?_
        rintro e w11 ⟨rfl, hb11⟩
        have HB11 := Lib.hid (bt HB10.out hb11)
        have ho1' := own_keptS HL1.out.1 (Kept.of_below (S := fun _ => False) (bt HB7.out.2 HB11.out)) (fun _ _ h => h)
        have HSp := Lib.hid (spoil_any a1 c1 L1 w11 (.of_own ho1' (fun m hm => (HL1.out.2.1 m hm).below (bt HB7.out.2 HB11.out))) (by have := HL1.out.2.2.1; omega) (fun m hm => by have := HP7.out.fromDs p seq most HL1.out.2.2.2 m hm; omega))
        clear hb11 HAl ho1'
        go_wp2_with fail
        refine HSp.out.mono ?_
        rintro e w12 ⟨rfl, hk12⟩
        have ho1 := HL1.out.1
        have hS1 := own_spS ho1 HL1.out.2.1
        have hlt1 : ∀ b', SpS a1 L1 b' → b' < w6.heap.size := by
          rintro b' (⟨o', e'⟩ | ⟨m, hm, hl, o', e'⟩)
          · exact (ho1.lt b' (by rw [e']; rfl)).2
          · exact ((HL1.out.2.1 m hm).2.lt b' (by rw [e']; rfl)).2
        have ho2' := own_keptS (own_keptS HL2.out.1 (Kept.of_below (S := fun _ => False) HB11.out) (fun _ _ h => h)) hk12 (fun b' hb' hc => by have h1 := (HL2.out.1.lt b' hb').1; have h2 := hlt1 b' hc; omega)
        have hf2' : ∀ m ∈ L2, FreshM w6.heap.size w12 m := fun m hm => ((HL2.out.2.1 m hm).below HB11.out).kept hk12 (fun b' hb' hc => by have h1 := ((HL2.out.2.1 m hm).2.lt b' hb').1; have h2 := hlt1 b' hc; omega)
        have HSp2 := Lib.hid (spoil_any a2 c2 L2 w12 (.of_own ho2' hf2') (by have := HL2.out.2.2.1; omega) (fun m hm => by have := HP7.out.aboveDs a b HL2.out.2.2.2 m hm; omega))
        have hP5d := HP5.out.below HB5.out
        have hb511 := bt HB7.out.1 (bt HB7.out.2 HB11.out)
        have hb512 := hk12.out hb511 hb511.size (fun b' hlt hs => by have := hS1 b' hs; omega)
        have HPL := Lib.hid (show ∀ w', Kept (SpS a2 L2) w12 w' → PlayAt W.heap.size W w' D M (k + 1) lo2 R2 V2 A2 vA2 from fun w' hk' => hP5d.spoilt hb512 hk' (fun b' hb' => by have h1 := own_spS HL2.out.1 HL2.out.2.1 b' hb'; have h2 := HB7.out.1.size; omega))
        clear ho1 hS1 hlt1 ho2' hf2' hP5d hb511 hb512 hk12 HSp
        go_wp2_with fail
        refine HSp2.out.mono ?_
        rintro e w13 ⟨rfl, hk13⟩
        have HPe := Lib.hid (HPL.out w13 hk13)
        clear hk13 HPL HSp2
        go_wp2_with fail
        exact ⟨⟨k + 1, HKL.out, by go_num, _, _, _, _, _, HPe.out⟩, measI HKL.out⟩
    · have hbool : decide ((k : Int) < (l.length : Int)) = false := by simpa using hlt
      have hbool' : decide (k < l.length) = false := by simpa using hlt
      have hk4 : k ≤ 400 := by omega
      have HP := Lib.hid hP
      have HV := Lib.hid (fun n kk hkk => hVector_any D lo R V n kk wr hP.mid.hold.at_ (hP.mid.hold.inv.bd (by omega)) hkk)
      have HV5 := Lib.hid (HV.out 5 5 (by decide))
      clear hP HH HFO HB1 HB2 HP0 HZX HZ hl HV
      go_wp2_with fail
      refine HV5.out.mono ?_
      rintro e w1 ⟨⟨v, rfl, hov⟩, hb1⟩
      obtain ⟨vd, vc, rfl⟩ := ownForm hov
      have HP1 := Lib.hid (HP.out.below hb1)
      have hvr := Reads.of_own hov
      obtain ⟨vg, rfl⟩ : ∃ vg, vd = some ⟨vg, 0, none⟩ := by
        obtain ⟨g', _, hv', _, _⟩ := hov.form (by decide)
        injection hv' with hv'
        exact ⟨g', hv'⟩
      have HC := Lib.hid (show ∀ w', Below w1.heap.size w1 w' → ∀ j : Nat, j < 5 → w'.cell? ⟨vg, j, none⟩ = some (.int .u32 (cntA A (j : Int) : Int)) ∧ w'.cell? ⟨M, 1 + j, none⟩ = some (.int .u32 (lo j : Int)) from fun w' hb j hj => by
        obtain ⟨ad, e, hlt', hcell⟩ := hvr.2 (by decide)
        injection e with e
        subst e
        refine ⟨?_, ?_⟩
        · have h1 := hcell j (.int .u32 (cntZ lo R (j : Int) : Int)) (by unfold numsM; rw [List.getElem?_map, List.getElem?_map, List.getElem?_range hj]; rfl)
          rw [HP.out.ref.cnt]
          refine (hb.cell (p := ⟨vg, j, none⟩) hlt').trans ?_
          rw [show (Addr.mk vg 0 none).add j = ⟨vg, j, none⟩ from by unfold Addr.add; split <;> simp_all] at h1
          exact h1
        · refine (cell_of_row _ _ (1 + j) _ _ _ (HP1.out.below hb).mid.blk).trans (refX_lo vA lo (by omega)))
      have hvg : vg < w1.heap.size := by
        obtain ⟨ad, e, hlt', _⟩ := hvr.2 (by decide)
        injection e with e
        subst e
        exact hlt'
      have HVG := Lib.hid hvg
      clear hov hvr HV5 hvg
      have HB1 := Lib.hid hb1
      clear hb1
      go_wp2_with fail
      obtain ⟨wo, rfl⟩ : ∃ wo : World, wo = w1 := ⟨_, rfl⟩
      go_loopw [26] (fun i wr => ∃ j : Nat, j ≤ 5 ∧ i = .int .i64 (j : Int) ∧ Below wo.heap.size wo wr) (fun i _ => 5 - (intOf i).toNat)
      case atStart => exact ⟨0, by omega, rfl, br _⟩
      case round =>
        obtain ⟨j, hj, rfl, hbj⟩ := hrel
        by_cases hj5 : j < 5
        · have b1 : decide ((j : Int) < 5) = true := by simp; omega
          have b1' : decide (j < 5) = true := by simpa using hj5
          have hji : (j : Int) < 5 := by omega
          have hji2 : (j : Int) < 64 := by omega
          have hji3 : j < 64 := by omega
          obtain ⟨d0, d1⟩ := HC.out _ hbj j hj5
          have HPj := Lib.hid (HP1.out.below hbj : PlayAt W.heap.size W wr D M k lo R V A vA)
          have hml := (Array.getElem?_eq_some_iff.1 HPj.out.mid.blk).1
          have e0 := Bel.cell d0 (Nat.lt_of_lt_of_le HVG.out hbj.size)
          have e1 := Bel.cell d1 hml
          have RM := Lib.hid (Bel.range (w := wr) (b := M) (o := 0) (cs := (refX vA lo).toList) (fun j u hu => (cell_of_row _ _ _ _ _ _ HPj.out.mid.blk).trans (by simpa using hu)) hml)
          have HCr := Lib.hid (show ∀ Z : Bel wr, Calls Try.prog 19 #[.agg (refX vA lo), .int .i64 (j : Int)] Z.val fun e w' => e = .returned (.int .u32 (cntA A (j : Int) : Int)) ∧ Below Z.val.heap.size Z.val w' from fun Z => playCountR_any (HPj.out.below Z.prop) hk4 (j : Int))
          have HLo := Lib.hid (show ∀ Z : Bel wr, Calls Try.prog 26 #[.pointer (some ⟨D, 0, none⟩), .int .i64 (j : Int)] Z.val fun e w' => e = .returned (.int .u32 (lo j : Int)) ∧ Below Z.val.heap.size Z.val w' from fun Z => (hLow_in D lo R V j Z.val (HPj.out.below Z.prop).mid.hold.at_ hji3).mono fun e w' ⟨he, hb⟩ => ⟨he, hb ▸ br _⟩)
          have HJ := Lib.hid (And.intro hj5 hbj)
          generalize cntA A (j : Int) = cj at *
          generalize lo j = lj at *
          clear d0 d1 hml hbj
          go_wp2_with fail
          refine wp_region_bel (by kernel_rfl) (by kernel_rfl) ?_
          repeat (first
            | (refine wpQuiet_load_want (by rfl) 34 (.tmp 12) rfl M 0 rfl (refX vA lo).toList _ RM.out Try.underlying34 rfl (by rw [Array.length_toList]; exact sizeX) ?_; go_simp)
            | go_big_quiet_step ((first | (go_at_call 19; exact bel_call (HCr.out _)) | (go_at_call 26; exact bel_call (HLo.out _)))))
          refine wpQuiet_nil ?_
          intro x5
          have hb5 := x5.prop
          generalize x5.val = w5 at *
          go_wp2_with fail
          exact ⟨⟨j + 1, HJ.out.1, by go_num, bt HJ.out.2 hb5⟩, measI HJ.out.1⟩
        · have b1 : decide ((j : Int) < 5) = false := by simp; omega
          have b1' : decide (j < 5) = false := by simpa using hj5
          have HPj := Lib.hid (HP1.out.below hbj : PlayAt W.heap.size W wr D M k lo R V A vA)
          clear hbj
          go_upto_region 37 with (fail)
          have HS := Lib.hid (show ∀ w', Below wr.heap.size wr w' → (w'.cell? ⟨w.heap.size, 0, none⟩ = some (.int .u64 a) ∧ w'.cell? ⟨w.heap.size, 1, none⟩ = some (.int .i64 b)) ∧ w'.rangeAt M 0 (refX vA lo).toList from fun w' hb => by
            have h1 := ((bt HPj.out.mid.hold.bel hb).block _ (Array.getElem?_eq_some_iff.1 HA.out.2).1).trans HA.out.2
            exact ⟨⟨cell_of_row _ _ 0 _ _ _ h1, cell_of_row _ _ 1 _ _ _ h1⟩, fun j u hu => (cell_of_row _ _ _ _ _ _ (HPj.out.below hb).mid.blk).trans (by simpa using hu)⟩)
          have HAb := Lib.hid (show ∀ W', Below wr.heap.size wr W' → Calls Try.prog 21 #[.pointer (some ⟨D, 0, none⟩), .agg #[.int .u64 a, .int .i64 b]] W' fun e w' => CopyEnd W' (sortM (aboveA A lo a b 64)) e w' ∧ Below W'.heap.size W' w' from fun W' hb => playAbove_any (HPj.out.below hb) hk4 a b)
          have HAr := Lib.hid (show ∀ W', Below wr.heap.size wr W' → Calls Try.prog 24 #[.agg (refX vA lo), .agg #[.int .u64 a, .int .i64 b]] W' fun e w' => RefEnd (sortM (aboveA A lo a b 64)) e w' ∧ Below W'.heap.size W' w' from fun W' hb => playAboveR_any (HPj.out.below hb) hk4 a b)
          obtain ⟨K0, hK0⟩ : ∃ K0, K0 = (max 0 (min most 64)).toNat := ⟨_, rfl⟩
          have HVc := Lib.hid (show ∀ W', Below wr.heap.size wr W' → Calls Try.prog 25 #[.pointer (some ⟨D, 0, none⟩), .int .i64 most] W' fun e w' => VecEnd W' lo R K0 e w' ∧ Below W'.heap.size W' w' from fun W' hb => hVector_any D lo R V most K0 W' (HPj.out.below hb).mid.hold.at_ ((HPj.out.below hb).mid.hold.inv.bd (by omega)) hK0)
          obtain ⟨mn, hmn⟩ : ∃ mn : Int, mn = min most 64 := ⟨_, rfl⟩
          have m1 : (if (64 : Int) < most then (64 : Int) else most) = mn := by split <;> omega
          have m2 : (if most < 64 then most else (64 : Int)) = mn := by split <;> omega
          have m4 : min most (64 : Int) = mn := hmn.symm
          have m5 : (if (0 : Int) < mn then mn else 0) = (K0 : Int) := by split <;> omega
          have m6 : (if mn < 0 then (0 : Int) else mn) = (K0 : Int) := by split <;> omega
          have m7 : max (0 : Int) mn = (K0 : Int) := by omega
          have HMM := Lib.hid (And.intro m1 (And.intro m2 (And.intro m4 (And.intro m5 (And.intro m6 m7)))))
          clear hK0 hmn m1 m2 m4 m5 m6 m7
          refine wp_region_mask (fun w' => (w'.cell? ⟨w.heap.size, 0, none⟩ = some (.int .u64 a) ∧ w'.cell? ⟨w.heap.size, 1, none⟩ = some (.int .i64 b)) ∧ w'.rangeAt M 0 (refX vA lo).toList) 17 14 [true, true, false, true, true, false, false, false, false, false, false, false, false, false, false, false, false, false] #[true, true, false, true, true, false, false, false, false, false, false, false, false, false, false, false, false, false] (by kernel_rfl) (by kernel_rfl) (by kernel_rfl) (HS.out _ (br wr).drew) ?_
          have HB5 := Lib.hid (show Below wr.heap.size wr wr.drew from (br wr).drew)
          generalize wr.drew = W5 at *
          iterate 2
            refine wpMask_take _ (Or.inl ⟨by rfl, fun w' hS => by (try dsimp only at hS); replace hS := hS.1; go_simp; try with_reducible rfl⟩) ?_
            simp only [Act.put, List.setIfInBounds_toArray, List.set_cons_zero, List.set_cons_succ]
          refine wpMask_skip ?_
          refine wpMask_take _ (yieldsIf_load_mid (by rfl) 34 (.tmp 12) rfl M 0 rfl (refX vA lo).toList _ (fun w' hS => hS.2) Try.underlying34 rfl (by rw [Array.length_toList]; exact sizeX)) ?_
          simp only [Act.put, List.setIfInBounds_toArray, List.set_cons_zero, List.set_cons_succ]
          refine wpMask_take _ (Or.inl ⟨by rfl, fun w' hS => by (try dsimp only at hS); replace hS := hS.1; go_simp; try with_reducible rfl⟩) ?_
          simp only [Act.put, List.setIfInBounds_toArray, List.set_cons_zero, List.set_cons_succ]
          iterate 13 refine wpMask_skip ?_
          refine wpMask_nil ?_
          refine wpAnyS_ready (rs := [2]) (by kernel_rfl) (by simp) ?_
          refine AllReadyS.cons rfl (fun K hK => ?_) AllReadyS.nil
          go_simp
          refine (HAb.out _ HB5.out).mono ?_
          rintro e w6 ⟨⟨v2, L2, rfl, ho2, hc2, hf2⟩, hb6⟩
          refine hK.out _ _ (fun _ => HS.out _ (bt HB5.out hb6)) ?_
          clear hK K
          simp only [Act.put, List.setIfInBounds_toArray, List.set_cons_zero, List.set_cons_succ]
          refine wpAnyS_ready (rs := [5]) (by kernel_rfl) (by simp) ?_
          refine AllReadyS.cons rfl (fun K hK => ?_) AllReadyS.nil
          go_simp
          refine (HAr.out _ (bt HB5.out hb6)).mono ?_
          rintro e w7 ⟨⟨v3, rfl, hm3⟩, hb7⟩
          refine hK.out _ _ (fun _ => HS.out _ (bt (bt HB5.out hb6) hb7)) ?_
          clear hK K
          simp only [Act.put, List.setIfInBounds_toArray, List.set_cons_zero, List.set_cons_succ]
          have hl2 : L2.length ≤ 1000 := by
            have h0 := congrArg List.length hc2
            have h1 := HPj.out.aboveLen hk4 a b 64 (by omega)
            simp only [List.length_map, sortM_len] at h0
            omega
          have HAl := Lib.hid (All_any v2 v3 L2 _ w7 ((copy_msgs ho2 hf2 hl2).below hb7) hm3)
          rw [allM_core hc2] at HAl
          have HB7 := Lib.hid (bt (bt HB5.out hb6) hb7)
          clear ho2 hc2 hf2 hl2 hm3 hb6 hb7
          refine wpAnyS_ready (rs := [6]) (by kernel_rfl) (by simp) ?_
          refine AllReadyS.cons rfl (fun K hK => ?_) AllReadyS.nil
          go_simp
          refine HAl.out.mono ?_
          rintro e w8 ⟨rfl, hb8⟩
          have HB8 := Lib.hid (bt HB7.out hb8)
          refine hK.out _ _ (fun _ => HS.out _ HB8.out) ?_
          clear hK K hb8
          simp only [Act.put, List.setIfInBounds_toArray, List.set_cons_zero, List.set_cons_succ]
          refine wpAnyS_take (i := 7) _ rfl (by kernel_rfl) (Or.inl ⟨by rfl, fun w' hS => by clear hS; go_simp; try with_reducible rfl⟩) (HS.out _ HB8.out) ?_
          simp only [Act.put, List.getElem_toArray, List.getElem_cons_succ, List.getElem_cons_zero, List.setIfInBounds_toArray, List.set_cons_zero, List.set_cons_succ]
          refine wpAnyS_take (i := 8) _ rfl (by kernel_rfl) (Or.inl ⟨by rfl, fun w' hS => by clear hS; go_simp; try with_reducible rfl⟩) (HS.out _ HB8.out) ?_
          simp only [Act.put, List.getElem_toArray, List.getElem_cons_succ, List.getElem_cons_zero, List.setIfInBounds_toArray, List.set_cons_zero, List.set_cons_succ]
          refine wpAnyS_take (i := 9) _ rfl (by kernel_rfl) (Or.inl ⟨by rfl, fun w' hS => by clear hS; go_simp; try with_reducible rfl⟩) (HS.out _ HB8.out) ?_
          simp only [Act.put, List.getElem_toArray, List.getElem_cons_succ, List.getElem_cons_zero, List.setIfInBounds_toArray, List.set_cons_zero, List.set_cons_succ]
          refine wpAnyS_take (i := 12) _ rfl (by kernel_rfl) (Or.inl ⟨by rfl, fun w' hS => by clear hS; go_simp; try with_reducible rfl⟩) (HS.out _ HB8.out) ?_
          simp only [Act.put, List.getElem_toArray, List.getElem_cons_succ, List.getElem_cons_zero, List.setIfInBounds_toArray, List.set_cons_zero, List.set_cons_succ]
          obtain ⟨m1, m2, m4, m5, m6, m7⟩ := HMM.out
          refine wpAnyS_take (i := 13) _ rfl (by kernel_rfl) (Or.inl ⟨by rfl, fun w' hS => by clear hS; go_simp; try with_reducible rfl⟩) (HS.out _ HB8.out) ?_
          simp only [Act.put, List.getElem_toArray, List.getElem_cons_succ, List.getElem_cons_zero, List.setIfInBounds_toArray, List.set_cons_zero, List.set_cons_succ]
          refine wpAnyS_take (i := 14) _ rfl (by kernel_rfl) (Or.inl ⟨by rfl, fun w' hS => by clear hS; go_simp; try with_reducible rfl⟩) (HS.out _ HB8.out) ?_
          simp only [Act.put, List.getElem_toArray, List.getElem_cons_succ, List.getElem_cons_zero, List.setIfInBounds_toArray, List.set_cons_zero, List.set_cons_succ]
          refine wpAnyS_ready (rs := [10]) (by kernel_rfl) (by simp) ?_
          refine AllReadyS.cons rfl (fun K hK => ?_) AllReadyS.nil
          go_simp
          refine (HVc.out _ HB8.out).mono ?_
          rintro e w9 ⟨⟨v9, rfl, ho9⟩, hb9⟩
          obtain ⟨a9, c9, rfl⟩ := ownForm ho9
          have HB9 := Lib.hid (bt HB8.out hb9)
          refine hK.out _ _ (fun _ => HS.out _ HB9.out) ?_
          clear hK K hb9 ho9
          simp only [Act.put, List.setIfInBounds_toArray, List.set_cons_zero, List.set_cons_succ]
          refine wpAnyS_take (i := 11) _ rfl (by kernel_rfl) (Or.inl ⟨by rfl, fun w' hS => by clear hS; go_simp; try with_reducible rfl⟩) (HS.out _ HB9.out) ?_
          simp only [Act.put, List.getElem_toArray, List.getElem_cons_succ, List.getElem_cons_zero, List.setIfInBounds_toArray, List.set_cons_zero, List.set_cons_succ]
          refine wpAnyS_take (i := 15) _ rfl (by kernel_rfl) (Or.inl ⟨by rfl, fun w' hS => by clear hS; go_simp; try with_reducible rfl⟩) (HS.out _ HB9.out) ?_
          simp only [Act.put, List.getElem_toArray, List.getElem_cons_succ, List.getElem_cons_zero, List.setIfInBounds_toArray, List.set_cons_zero, List.set_cons_succ]
          refine wpAnyS_take (i := 16) _ rfl (by kernel_rfl) (Or.inl ⟨by rfl, fun w' hS => by clear hS; go_simp; try with_reducible rfl⟩) (HS.out _ HB9.out) ?_
          simp only [Act.put, List.getElem_toArray, List.getElem_cons_succ, List.getElem_cons_zero, List.setIfInBounds_toArray, List.set_cons_zero, List.set_cons_succ]
          refine wpAnyS_ready (rs := [17]) (by kernel_rfl) (by simp) ?_
          refine AllReadyS.cons rfl (fun K hK => ?_) AllReadyS.nil
          go_simp
          refine hK.out _ _ (fun h => absurd h (by omega)) ?_
          clear hK K
          simp only [Act.put, List.setIfInBounds_toArray, List.set_cons_zero, List.set_cons_succ]
          refine wpAnyS_done (by kernel_rfl) ?_ _
          go_wp2_with fail
          go_ret
          exact ⟨rfl, bt HA.out.1 (bt HPj.out.mid.hold.bel HB9.out)⟩
end Go.Proofs.Ytnjcebkdkklidaa
