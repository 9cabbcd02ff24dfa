/-
  The law KeyTotal.
  Conditions: none.
-/
import Derived.Test.YtodlmboagbjcbaaKeyL
import Derived.Deep.DeepCutAuto
namespace Go.Proofs.Ytodlmboagbjcbaa
set_option linter.unusedVariables false
set_option linter.unusedSimpArgs false
open Go.RowKit
theorem keyZ_neg (a1 a2 b1 b2 : Int) : keyZ b1 b2 a1 a2 = - keyZ a1 a2 b1 b2 := by
  rcases keyZ_vals a1 a2 b1 b2 with ⟨e, h⟩ | ⟨e, h, h'⟩ | ⟨e, h⟩ <;> rcases keyZ_vals b1 b2 a1 a2 with ⟨e2, h2⟩ | ⟨e2, h2, h2'⟩ | ⟨e2, h2⟩ <;> first | omega | (simp only [keyLt] at *; omega)
theorem keyLt_trans {p q r : Int × Int} (h1 : keyLt p q) (h2 : keyLt q r) : keyLt p r := by
  unfold keyLt at *
  omega
theorem keyZ_lt {p q : Int × Int} (h : keyLt p q) : keyZ p.1 p.2 q.1 q.2 = -1 := by
  rcases keyZ_vals p.1 p.2 q.1 q.2 with ⟨e2, h2⟩ | ⟨e2, h2, h2'⟩ | ⟨e2, h2⟩
  · exact e2
  · unfold keyLt at h; omega
  · unfold keyLt at h h2; simp only at h2; omega
theorem alloc6 (w : World) (A B C D E F : Obj) : ∀ W1, Below (((((((w.alloc A).alloc B).alloc C).alloc D).alloc E).alloc F)).heap.size ((((((w.alloc A).alloc B).alloc C).alloc D).alloc E).alloc F) W1 →
    (W1.heap[w.heap.size]? = some A ∧ W1.heap[w.heap.size + 1]? = some B ∧ W1.heap[w.heap.size + 1 + 1]? = some C ∧ W1.heap[w.heap.size + 1 + 1 + 1]? = some D ∧ W1.heap[w.heap.size + 1 + 1 + 1 + 1]? = some E ∧ W1.heap[w.heap.size + 1 + 1 + 1 + 1 + 1]? = some F) ∧ Below w.heap.size w W1 := by
  intro W1 hb
  have step : ∀ (W : World) (o O : Obj) (i : Nat), W.heap[i]? = some O → (W.alloc o).heap[i]? = some O := fun W o O i h => (Below.heap_alloc W o i (Array.getElem?_eq_some_iff.1 h).1).trans h
  have new : ∀ (W : World) (o : Obj) (n : Nat), W.heap.size = n → (W.alloc o).heap[n]? = some o := fun W o n h => by subst h; exact heap_alloc_new W o
  have up : ∀ (i : Nat) (O : Obj), ((((((w.alloc A).alloc B).alloc C).alloc D).alloc E).alloc F).heap[i]? = some O → W1.heap[i]? = some O := fun i O h => (hb.block _ (Array.getElem?_eq_some_iff.1 h).1).trans h
  refine ⟨⟨up _ _ ?_, up _ _ ?_, up _ _ ?_, up _ _ ?_, up _ _ ?_, up _ _ ?_⟩, bt (ba (ba (ba (ba (ba (ba (br w) A) B) C) D) E) F) hb⟩
  · exact step _ _ _ _ (step _ _ _ _ (step _ _ _ _ (step _ _ _ _ (step _ _ _ _ (new _ _ _ rfl)))))
  · exact step _ _ _ _ (step _ _ _ _ (step _ _ _ _ (step _ _ _ _ (new _ _ _ (by simp)))))
  · exact step _ _ _ _ (step _ _ _ _ (step _ _ _ _ (new _ _ _ (by simp))))
  · exact step _ _ _ _ (step _ _ _ _ (new _ _ _ (by simp)))
  · exact step _ _ _ _ (new _ _ _ (by simp))
  · exact new _ _ _ (by simp)
set_option maxRecDepth 100000 in
set_option maxHeartbeats 8000000 in
theorem law_keyTotal (a1 a2 b1 b2 c1 c2 d1 d2 k1 k2 f1 f2 : Int) (w : World) :
    Calls Try.prog 8 #[.agg #[.int .u64 a1, .int .i64 a2], .agg #[.int .u64 b1, .int .i64 b2], .agg #[.int .u64 c1, .int .i64 c2], .agg #[.int .u64 d1, .int .i64 d2], .agg #[.int .u64 k1, .int .i64 k2], .agg #[.int .u64 f1, .int .i64 f2]] w fun e w' => e = .returned (.bool true) ∧ Below w.heap.size w w' := by
  go_enter Try.func8, Try.ntmps8
  go_wp2_with fail
  refine (awake03_any _).mono ?_
  rintro e w1 ⟨rfl, hb1⟩
  obtain ⟨⟨ha, hb, hc, hd, hk, hf⟩, hbw⟩ := alloc6 w _ _ _ _ _ _ w1 hb1
  have Ha := Lib.hid ha
  have Hb := Lib.hid hb
  have Hc := Lib.hid hc
  have Hd := Lib.hid hd
  have Hk := Lib.hid hk
  have Hf := Lib.hid hf
  have HBW := Lib.hid hbw
  clear ha hb hc hd hk hf hbw hb1
  go_upto_region 3 with (fail)
  go_cut [51] (fun s wx => s = .bool false ∧ Below w1.heap.size w1 wx)
  case first =>
    have qa0 := Bel.cell (cell_of_row _ _ 0 _ _ _ Ha.out : w1.cell? ⟨w.heap.size, 0, none⟩ = some (.int .u64 a1)) (Array.getElem?_eq_some_iff.1 Ha.out).1
    have qa1 := Bel.cell (cell_of_row _ _ 1 _ _ _ Ha.out : w1.cell? ⟨w.heap.size, 1, none⟩ = some (.int .i64 a2)) (Array.getElem?_eq_some_iff.1 Ha.out).1
    have qb0 := Bel.cell (cell_of_row _ _ 0 _ _ _ Hb.out : w1.cell? ⟨w.heap.size + 1, 0, none⟩ = some (.int .u64 b1)) (Array.getElem?_eq_some_iff.1 Hb.out).1
    have qb1 := Bel.cell (cell_of_row _ _ 1 _ _ _ Hb.out : w1.cell? ⟨w.heap.size + 1, 1, none⟩ = some (.int .i64 b2)) (Array.getElem?_eq_some_iff.1 Hb.out).1
    have qc0 := Bel.cell (cell_of_row _ _ 0 _ _ _ Hc.out : w1.cell? ⟨w.heap.size + 1 + 1, 0, none⟩ = some (.int .u64 c1)) (Array.getElem?_eq_some_iff.1 Hc.out).1
    have qc1 := Bel.cell (cell_of_row _ _ 1 _ _ _ Hc.out : w1.cell? ⟨w.heap.size + 1 + 1, 1, none⟩ = some (.int .i64 c2)) (Array.getElem?_eq_some_iff.1 Hc.out).1
    have HCM := Lib.hid (fun (p1 p2 r1 r2 : Int) (W : World) => kCmp_any p1 p2 r1 r2 W)
    rcases keyZ_vals a1 a2 b1 b2 with ⟨e, h⟩ | ⟨e, h, h'⟩ | ⟨e, h⟩
    · -- less
      have hback := keyZ_neg a1 a2 b1 b2
      rw [e] at hback
      rw [show (-(-1) : Int) = 1 from rfl] at hback
      have hlt := Lib.hid h
      unfold keyLt at h
      simp only at h
      by_cases g1 : a1 = b1
      · have g2 : ¬ a2 = b2 := by omega
        have m1 : (a1 == b1) = true := by simpa using g1
        have m2 : (a2 == b2) = false := by simpa using g2
        clear g1 g2 h
        rcases keyZ_vals b1 b2 c1 c2 with ⟨e3, h3⟩ | ⟨e3, h3, h3'⟩ | ⟨e3, h3⟩
        · have e4 := keyZ_lt (keyLt_trans hlt.out h3)
          simp only at e4
          clear h3 hlt
          refine wp_region_bel (by kernel_rfl) (by kernel_rfl) ?_
          repeat (go_big_quiet_step ((go_at_call 29; exact bel_call (HCM.out _ _ _ _ _))))
          refine wpQuiet_nil ?_
          intro w5 hw5
          obtain ⟨x5, rfl⟩ := hw5
          have hb5 := x5.prop
          generalize x5.val = w5 at *
          go_wp2
          go_meet
          exact ⟨rfl, hb5⟩
        · clear h3 h3' hlt
          refine wp_region_bel (by kernel_rfl) (by kernel_rfl) ?_
          repeat (go_big_quiet_step ((go_at_call 29; exact bel_call (HCM.out _ _ _ _ _))))
          refine wpQuiet_nil ?_
          intro w5 hw5
          obtain ⟨x5, rfl⟩ := hw5
          have hb5 := x5.prop
          generalize x5.val = w5 at *
          go_wp2
          go_meet
          exact ⟨rfl, hb5⟩
        · clear h3 hlt
          refine wp_region_bel (by kernel_rfl) (by kernel_rfl) ?_
          repeat (go_big_quiet_step ((go_at_call 29; exact bel_call (HCM.out _ _ _ _ _))))
          refine wpQuiet_nil ?_
          intro w5 hw5
          obtain ⟨x5, rfl⟩ := hw5
          have hb5 := x5.prop
          generalize x5.val = w5 at *
          go_wp2
          go_meet
          exact ⟨rfl, hb5⟩
      · have m1 : (a1 == b1) = false := by simpa using g1
        clear g1 h
        rcases keyZ_vals b1 b2 c1 c2 with ⟨e3, h3⟩ | ⟨e3, h3, h3'⟩ | ⟨e3, h3⟩
        · have e4 := keyZ_lt (keyLt_trans hlt.out h3)
          simp only at e4
          clear h3 hlt
          refine wp_region_bel (by kernel_rfl) (by kernel_rfl) ?_
          repeat (go_big_quiet_step ((go_at_call 29; exact bel_call (HCM.out _ _ _ _ _))))
          refine wpQuiet_nil ?_
          intro w5 hw5
          obtain ⟨x5, rfl⟩ := hw5
          have hb5 := x5.prop
          generalize x5.val = w5 at *
          go_wp2
          go_meet
          exact ⟨rfl, hb5⟩
        · clear h3 h3' hlt
          refine wp_region_bel (by kernel_rfl) (by kernel_rfl) ?_
          repeat (go_big_quiet_step ((go_at_call 29; exact bel_call (HCM.out _ _ _ _ _))))
          refine wpQuiet_nil ?_
          intro w5 hw5
          obtain ⟨x5, rfl⟩ := hw5
          have hb5 := x5.prop
          generalize x5.val = w5 at *
          go_wp2
          go_meet
          exact ⟨rfl, hb5⟩
        · clear h3 hlt
          refine wp_region_bel (by kernel_rfl) (by kernel_rfl) ?_
          repeat (go_big_quiet_step ((go_at_call 29; exact bel_call (HCM.out _ _ _ _ _))))
          refine wpQuiet_nil ?_
          intro w5 hw5
          obtain ⟨x5, rfl⟩ := hw5
          have hb5 := x5.prop
          generalize x5.val = w5 at *
          go_wp2
          go_meet
          exact ⟨rfl, hb5⟩
    · -- the same
      have hback := keyZ_neg a1 a2 b1 b2
      rw [e] at hback
      have m1 : (a1 == b1) = true := by simpa using h
      have m2 : (a2 == b2) = true := by simpa using h'
      clear h h'
      refine wp_region_bel (by kernel_rfl) (by kernel_rfl) ?_
      repeat (go_big_quiet_step ((go_at_call 29; exact bel_call (HCM.out _ _ _ _ _))))
      refine wpQuiet_nil ?_
      intro w5 hw5
      obtain ⟨x5, rfl⟩ := hw5
      have hb5 := x5.prop
      generalize x5.val = w5 at *
      go_wp2
      go_meet
      exact ⟨rfl, hb5⟩
    · -- more
      have hback := keyZ_neg a1 a2 b1 b2
      rw [e] at hback
      skip
      have hlt := Lib.hid h
      unfold keyLt at h
      simp only at h
      by_cases g1 : a1 = b1
      · have g2 : ¬ a2 = b2 := by omega
        have m1 : (a1 == b1) = true := by simpa using g1
        have m2 : (a2 == b2) = false := by simpa using g2
        clear g1 g2 h
        clear hlt
        refine wp_region_bel (by kernel_rfl) (by kernel_rfl) ?_
        repeat (go_big_quiet_step ((go_at_call 29; exact bel_call (HCM.out _ _ _ _ _))))
        refine wpQuiet_nil ?_
        intro w5 hw5
        obtain ⟨x5, rfl⟩ := hw5
        have hb5 := x5.prop
        generalize x5.val = w5 at *
        go_wp2
        go_meet
        exact ⟨rfl, hb5⟩
      · have m1 : (a1 == b1) = false := by simpa using g1
        clear g1 h
        clear hlt
        refine wp_region_bel (by kernel_rfl) (by kernel_rfl) ?_
        repeat (go_big_quiet_step ((go_at_call 29; exact bel_call (HCM.out _ _ _ _ _))))
        refine wpQuiet_nil ?_
        intro w5 hw5
        obtain ⟨x5, rfl⟩ := hw5
        have hb5 := x5.prop
        generalize x5.val = w5 at *
        go_wp2
        go_meet
        exact ⟨rfl, hb5⟩
  case rest =>
    obtain ⟨rfl, hb2⟩ := hcut
    have up : ∀ (i : Nat) (O : Obj), w1.heap[i]? = some O → wc.heap[i]? = some O := fun i O h => (hb2.block _ (Array.getElem?_eq_some_iff.1 h).1).trans h
    have ha2 := up _ _ Ha.out
    have hb2' := up _ _ Hb.out
    have hc2 := up _ _ Hc.out
    have hd2 := up _ _ Hd.out
    have hk2 := up _ _ Hk.out
    have hf2 := up _ _ Hf.out
    have hbw := HBW.out.trans (hb2.mono HBW.out.size)
    clear Ha Hb Hc Hd Hk Hf HBW up
    have Ha := Lib.hid ha2
    have Hb := Lib.hid hb2'
    have Hc := Lib.hid hc2
    have Hd := Lib.hid hd2
    have Hk := Lib.hid hk2
    have Hf := Lib.hid hf2
    have HBW := Lib.hid hbw
    clear ha2 hb2' hc2 hd2 hk2 hf2 hbw hb2
    obtain ⟨w2, rfl⟩ : ∃ w2, w2 = wc := ⟨_, rfl⟩
    go_upto_region 5 with (fail)
    go_cut [87] (fun s wx => s = .bool false ∧ Below w2.heap.size w2 wx)
    case first =>
      have qd0 := Bel.cell (cell_of_row _ _ 0 _ _ _ Hd.out : w2.cell? ⟨w.heap.size + 1 + 1 + 1, 0, none⟩ = some (.int .u64 d1)) (Array.getElem?_eq_some_iff.1 Hd.out).1
      have qd1 := Bel.cell (cell_of_row _ _ 1 _ _ _ Hd.out : w2.cell? ⟨w.heap.size + 1 + 1 + 1, 1, none⟩ = some (.int .i64 d2)) (Array.getElem?_eq_some_iff.1 Hd.out).1
      have qk0 := Bel.cell (cell_of_row _ _ 0 _ _ _ Hk.out : w2.cell? ⟨w.heap.size + 1 + 1 + 1 + 1, 0, none⟩ = some (.int .u64 k1)) (Array.getElem?_eq_some_iff.1 Hk.out).1
      have qk1 := Bel.cell (cell_of_row _ _ 1 _ _ _ Hk.out : w2.cell? ⟨w.heap.size + 1 + 1 + 1 + 1, 1, none⟩ = some (.int .i64 k2)) (Array.getElem?_eq_some_iff.1 Hk.out).1
      have qf0 := Bel.cell (cell_of_row _ _ 0 _ _ _ Hf.out : w2.cell? ⟨w.heap.size + 1 + 1 + 1 + 1 + 1, 0, none⟩ = some (.int .u64 f1)) (Array.getElem?_eq_some_iff.1 Hf.out).1
      have qf1 := Bel.cell (cell_of_row _ _ 1 _ _ _ Hf.out : w2.cell? ⟨w.heap.size + 1 + 1 + 1 + 1 + 1, 1, none⟩ = some (.int .i64 f2)) (Array.getElem?_eq_some_iff.1 Hf.out).1
      have HCM := Lib.hid (fun (p1 p2 r1 r2 : Int) (W : World) => kConf_any p1 p2 r1 r2 W)
      rcases keyZ_vals d1 d2 k1 k2 with ⟨e, h⟩ | ⟨e, h, h'⟩ | ⟨e, h⟩
      · -- less
        have hback := keyZ_neg d1 d2 k1 k2
        rw [e] at hback
        rw [show (-(-1) : Int) = 1 from rfl] at hback
        have hlt := Lib.hid h
        unfold keyLt at h
        simp only at h
        by_cases g1 : d1 = k1
        · have g2 : ¬ d2 = k2 := by omega
          have m1 : (d1 == k1) = true := by simpa using g1
          have m2 : (d2 == k2) = false := by simpa using g2
          clear g1 g2 h
          rcases keyZ_vals k1 k2 f1 f2 with ⟨e3, h3⟩ | ⟨e3, h3, h3'⟩ | ⟨e3, h3⟩
          · have e4 := keyZ_lt (keyLt_trans hlt.out h3)
            simp only at e4
            clear h3 hlt
            refine wp_region_bel (by kernel_rfl) (by kernel_rfl) ?_
            repeat (go_big_quiet_step ((go_at_call 30; exact bel_call (HCM.out _ _ _ _ _))))
            refine wpQuiet_nil ?_
            intro w5 hw5
            obtain ⟨x5, rfl⟩ := hw5
            have hb5 := x5.prop
            generalize x5.val = w5 at *
            go_wp2
            go_meet
            exact ⟨rfl, hb5⟩
          · clear h3 h3' hlt
            refine wp_region_bel (by kernel_rfl) (by kernel_rfl) ?_
            repeat (go_big_quiet_step ((go_at_call 30; exact bel_call (HCM.out _ _ _ _ _))))
            refine wpQuiet_nil ?_
            intro w5 hw5
            obtain ⟨x5, rfl⟩ := hw5
            have hb5 := x5.prop
            generalize x5.val = w5 at *
            go_wp2
            go_meet
            exact ⟨rfl, hb5⟩
          · clear h3 hlt
            refine wp_region_bel (by kernel_rfl) (by kernel_rfl) ?_
            repeat (go_big_quiet_step ((go_at_call 30; exact bel_call (HCM.out _ _ _ _ _))))
            refine wpQuiet_nil ?_
            intro w5 hw5
            obtain ⟨x5, rfl⟩ := hw5
            have hb5 := x5.prop
            generalize x5.val = w5 at *
            go_wp2
            go_meet
            exact ⟨rfl, hb5⟩
        · have m1 : (d1 == k1) = false := by simpa using g1
          clear g1 h
          rcases keyZ_vals k1 k2 f1 f2 with ⟨e3, h3⟩ | ⟨e3, h3, h3'⟩ | ⟨e3, h3⟩
          · have e4 := keyZ_lt (keyLt_trans hlt.out h3)
            simp only at e4
            clear h3 hlt
            refine wp_region_bel (by kernel_rfl) (by kernel_rfl) ?_
            repeat (go_big_quiet_step ((go_at_call 30; exact bel_call (HCM.out _ _ _ _ _))))
            refine wpQuiet_nil ?_
            intro w5 hw5
            obtain ⟨x5, rfl⟩ := hw5
            have hb5 := x5.prop
            generalize x5.val = w5 at *
            go_wp2
            go_meet
            exact ⟨rfl, hb5⟩
          · clear h3 h3' hlt
            refine wp_region_bel (by kernel_rfl) (by kernel_rfl) ?_
            repeat (go_big_quiet_step ((go_at_call 30; exact bel_call (HCM.out _ _ _ _ _))))
            refine wpQuiet_nil ?_
            intro w5 hw5
            obtain ⟨x5, rfl⟩ := hw5
            have hb5 := x5.prop
            generalize x5.val = w5 at *
            go_wp2
            go_meet
            exact ⟨rfl, hb5⟩
          · clear h3 hlt
            refine wp_region_bel (by kernel_rfl) (by kernel_rfl) ?_
            repeat (go_big_quiet_step ((go_at_call 30; exact bel_call (HCM.out _ _ _ _ _))))
            refine wpQuiet_nil ?_
            intro w5 hw5
            obtain ⟨x5, rfl⟩ := hw5
            have hb5 := x5.prop
            generalize x5.val = w5 at *
            go_wp2
            go_meet
            exact ⟨rfl, hb5⟩
      · -- the same
        have hback := keyZ_neg d1 d2 k1 k2
        rw [e] at hback
        have m1 : (d1 == k1) = true := by simpa using h
        have m2 : (d2 == k2) = true := by simpa using h'
        clear h h'
        refine wp_region_bel (by kernel_rfl) (by kernel_rfl) ?_
        repeat (go_big_quiet_step ((go_at_call 30; exact bel_call (HCM.out _ _ _ _ _))))
        refine wpQuiet_nil ?_
        intro w5 hw5
        obtain ⟨x5, rfl⟩ := hw5
        have hb5 := x5.prop
        generalize x5.val = w5 at *
        go_wp2
        go_meet
        exact ⟨rfl, hb5⟩
      · -- more
        have hback := keyZ_neg d1 d2 k1 k2
        rw [e] at hback
        skip
        have hlt := Lib.hid h
        unfold keyLt at h
        simp only at h
        by_cases g1 : d1 = k1
        · have g2 : ¬ d2 = k2 := by omega
          have m1 : (d1 == k1) = true := by simpa using g1
          have m2 : (d2 == k2) = false := by simpa using g2
          clear g1 g2 h
          clear hlt
          refine wp_region_bel (by kernel_rfl) (by kernel_rfl) ?_
          repeat (go_big_quiet_step ((go_at_call 30; exact bel_call (HCM.out _ _ _ _ _))))
          refine wpQuiet_nil ?_
          intro w5 hw5
          obtain ⟨x5, rfl⟩ := hw5
          have hb5 := x5.prop
          generalize x5.val = w5 at *
          go_wp2
          go_meet
          exact ⟨rfl, hb5⟩
        · have m1 : (d1 == k1) = false := by simpa using g1
          clear g1 h
          clear hlt
          refine wp_region_bel (by kernel_rfl) (by kernel_rfl) ?_
          repeat (go_big_quiet_step ((go_at_call 30; exact bel_call (HCM.out _ _ _ _ _))))
          refine wpQuiet_nil ?_
          intro w5 hw5
          obtain ⟨x5, rfl⟩ := hw5
          have hb5 := x5.prop
          generalize x5.val = w5 at *
          go_wp2
          go_meet
          exact ⟨rfl, hb5⟩
    case rest =>
      obtain ⟨rfl, hbel3⟩ := hcut
      have up : ∀ (i : Nat) (O : Obj), w2.heap[i]? = some O → wc.heap[i]? = some O := fun i O h => (hbel3.block _ (Array.getElem?_eq_some_iff.1 h).1).trans h
      have ha3 := up _ _ Ha.out
      have hb3 := up _ _ Hb.out
      have hc3 := up _ _ Hc.out
      have hbw := HBW.out.trans (hbel3.mono HBW.out.size)
      clear Ha Hb Hc Hd Hk Hf HBW up hbel3
      have Ha := Lib.hid ha3
      have Hb := Lib.hid hb3
      have Hc := Lib.hid hc3
      have HBW := Lib.hid hbw
      obtain ⟨w3, rfl⟩ : ∃ w3, w3 = wc := ⟨_, rfl⟩
      obtain ⟨l1, l2, hl⟩ : ∃ l1 l2, bestK [(a1, a2), (b1, b2), (c1, c2)] 3 = (l1, l2) := ⟨_, _, rfl⟩
      obtain ⟨mx, mt⟩ := bestK_max [(a1, a2), (b1, b2), (c1, c2)] 3 (Nat.le_refl _)
      rw [hl] at mx mt
      have na : ¬ keyLt (l1, l2) (a1, a2) := mx 0 (by simp) (by omega)
      have nb : ¬ keyLt (l1, l2) (b1, b2) := mx 1 (by simp) (by omega)
      have nc : ¬ keyLt (l1, l2) (c1, c2) := mx 2 (by simp) (by omega)
      have at3 : (l1 = a1 ∧ l2 = a2) ∨ (l1 = b1 ∧ l2 = b2) ∨ (l1 = c1 ∧ l2 = c2) := by
        obtain ⟨i, hi, _, e⟩ := mt (by omega)
        match i, hi with
        | 0, _ => exact .inl ⟨(congrArg Prod.fst e).symm, (congrArg Prod.snd e).symm⟩
        | 1, _ => exact .inr (.inl ⟨(congrArg Prod.fst e).symm, (congrArg Prod.snd e).symm⟩)
        | 2, _ => exact .inr (.inr ⟨(congrArg Prod.fst e).symm, (congrArg Prod.snd e).symm⟩)
      obtain ⟨va, ea, ga⟩ : ∃ v, keyZ l1 l2 a1 a2 = v ∧ decide (0 ≤ v) = true := by
        rcases keyZ_vals l1 l2 a1 a2 with ⟨e, h⟩ | ⟨e, _⟩ | ⟨e, _⟩
        · exact absurd h na
        · exact ⟨0, e, rfl⟩
        · exact ⟨1, e, rfl⟩
      obtain ⟨vb, eb, gb⟩ : ∃ v, keyZ l1 l2 b1 b2 = v ∧ decide (0 ≤ v) = true := by
        rcases keyZ_vals l1 l2 b1 b2 with ⟨e, h⟩ | ⟨e, _⟩ | ⟨e, _⟩
        · exact absurd h nb
        · exact ⟨0, e, rfl⟩
        · exact ⟨1, e, rfl⟩
      obtain ⟨vc, ec, gc⟩ : ∃ v, keyZ l1 l2 c1 c2 = v ∧ decide (0 ≤ v) = true := by
        rcases keyZ_vals l1 l2 c1 c2 with ⟨e, h⟩ | ⟨e, _⟩ | ⟨e, _⟩
        · exact absurd h nc
        · exact ⟨0, e, rfl⟩
        · exact ⟨1, e, rfl⟩
      have HBEST := Lib.hid (And.intro hl at3)
      clear mx mt na nb nc at3 hl ha3 hb3 hc3 hbw
      have HV := Lib.hid (And.intro ea (And.intro eb (And.intro ec (And.intro ga (And.intro gb gc)))))
      clear ea eb ec ga gb gc
      have ya0 : w3.cell? ⟨w.heap.size, 0, none⟩ = some (.int .u64 a1) := cell_of_row _ _ 0 _ _ _ Ha.out
      have ya1 : w3.cell? ⟨w.heap.size, 1, none⟩ = some (.int .i64 a2) := cell_of_row _ _ 1 _ _ _ Ha.out
      have yb0 : w3.cell? ⟨w.heap.size + 1, 0, none⟩ = some (.int .u64 b1) := cell_of_row _ _ 0 _ _ _ Hb.out
      have yb1 : w3.cell? ⟨w.heap.size + 1, 1, none⟩ = some (.int .i64 b2) := cell_of_row _ _ 1 _ _ _ Hb.out
      have yc0 : w3.cell? ⟨w.heap.size + 1 + 1, 0, none⟩ = some (.int .u64 c1) := cell_of_row _ _ 0 _ _ _ Hc.out
      have yc1 : w3.cell? ⟨w.heap.size + 1 + 1, 1, none⟩ = some (.int .i64 c2) := cell_of_row _ _ 1 _ _ _ Hc.out
      have hr : Reads (w3.alloc (.cells #[.int .u64 a1, .int .i64 a2, .int .u64 b1, .int .i64 b2, .int .u64 c1, .int .i64 c2] 56)) (w3.alloc (.cells #[.int .u64 a1, .int .i64 a2, .int .u64 b1, .int .i64 b2, .int .u64 c1, .int .i64 c2] 56)).heap.size 2 (some ⟨w3.heap.size, 0, none⟩) [(a1, a2), (b1, b2), (c1, c2)].length (keysV [(a1, a2), (b1, b2), (c1, c2)]) :=
        ⟨rfl, fun _ => ⟨_, rfl, by simp, fun j u hu => new_cells w3 [.int .u64 a1, .int .i64 a2, .int .u64 b1, .int .i64 b2, .int .u64 c1, .int .i64 c2] 56 j u hu⟩⟩
      have hlast := kLast_any [(a1, a2), (b1, b2), (c1, c2)] (some ⟨w3.heap.size, 0, none⟩) 3 _ hr (by simp)
      rw [show [(a1, a2), (b1, b2), (c1, c2)].length = 3 from rfl, HBEST.out.1] at hlast
      have HLA := Lib.hid hlast
      have hb4 := ba (br w3) (.cells #[.int .u64 a1, .int .i64 a2, .int .u64 b1, .int .i64 b2, .int .u64 c1, .int .i64 c2] 56)
      clear hr hlast
      go_wp2_with fail
      refine HLA.out.mono ?_
      rintro e w5 ⟨rfl, hb5'⟩
      have hb5 := bt hb4 hb5'
      have hbl6 := ba hb5 (.cells #[.int .u64 l1, .int .i64 l2] 56)
      have hx := heap_alloc_new w5 (.cells #[.int .u64 l1, .int .i64 l2] 56)
      clear ya0 ya1 yb0 yb1 yc0 yc1 hb4 hb5' HLA
      go_upto_region 8 with (fail)
      generalize w5.alloc (.cells #[.int .u64 l1, .int .i64 l2] 56) = w6 at *
      have up : ∀ (i : Nat) (O : Obj), w3.heap[i]? = some O → w6.heap[i]? = some O := fun i O h => (hbl6.block _ (Array.getElem?_eq_some_iff.1 h).1).trans h
      have ha6 := up _ _ Ha.out
      have hb6 := up _ _ Hb.out
      have hc6 := up _ _ Hc.out
      have hbw6 := HBW.out.trans (hbl6.mono HBW.out.size)
      have qa0 := Bel.cell (cell_of_row _ _ 0 _ _ _ ha6 : w6.cell? ⟨w.heap.size, 0, none⟩ = some (.int .u64 a1)) (Array.getElem?_eq_some_iff.1 ha6).1
      have qa1 := Bel.cell (cell_of_row _ _ 1 _ _ _ ha6 : w6.cell? ⟨w.heap.size, 1, none⟩ = some (.int .i64 a2)) (Array.getElem?_eq_some_iff.1 ha6).1
      have qb0 := Bel.cell (cell_of_row _ _ 0 _ _ _ hb6 : w6.cell? ⟨w.heap.size + 1, 0, none⟩ = some (.int .u64 b1)) (Array.getElem?_eq_some_iff.1 hb6).1
      have qb1 := Bel.cell (cell_of_row _ _ 1 _ _ _ hb6 : w6.cell? ⟨w.heap.size + 1, 1, none⟩ = some (.int .i64 b2)) (Array.getElem?_eq_some_iff.1 hb6).1
      have qc0 := Bel.cell (cell_of_row _ _ 0 _ _ _ hc6 : w6.cell? ⟨w.heap.size + 1 + 1, 0, none⟩ = some (.int .u64 c1)) (Array.getElem?_eq_some_iff.1 hc6).1
      have qc1 := Bel.cell (cell_of_row _ _ 1 _ _ _ hc6 : w6.cell? ⟨w.heap.size + 1 + 1, 1, none⟩ = some (.int .i64 c2)) (Array.getElem?_eq_some_iff.1 hc6).1
      have ql0 := Bel.cell (cell_of_row _ _ 0 _ _ _ hx : w6.cell? ⟨w5.heap.size, 0, none⟩ = some (.int .u64 l1)) (Array.getElem?_eq_some_iff.1 hx).1
      have ql1 := Bel.cell (cell_of_row _ _ 1 _ _ _ hx : w6.cell? ⟨w5.heap.size, 1, none⟩ = some (.int .i64 l2)) (Array.getElem?_eq_some_iff.1 hx).1
      clear up ha6 hb6 hc6 hx hb5 hbl6
      have H6 := Lib.hid hbw6
      clear hbw6
      obtain ⟨ea, eb, ec, ga, gb, gc⟩ := HV.out
      have HCM := Lib.hid (fun (p1 p2 r1 r2 : Int) (W : World) => kCmp_any p1 p2 r1 r2 W)
      have at3 := HBEST.out.2
      by_cases hea : l1 = a1 ∧ l2 = a2
      · obtain ⟨h1, h2⟩ := hea
        clear at3
        have ma1 : (l1 == a1) = true := by simpa using h1
        have ma2 : (l2 == a2) = true := by simpa using h2
        clear h1 h2
        generalize hW : w6 = W
        obtain ⟨x0, rfl⟩ : ∃ x : Bel w6, W = x.val := ⟨⟨w6, br w6⟩, hW.symm⟩
        clear hW
        go_wp2_with fail
        refine (bel_call (HCM.out _ _ _ _ _)).mono ?_
        rintro e w9 ⟨rfl, x1, rfl⟩
        go_wp2_with fail
        refine (bel_call (HCM.out _ _ _ _ _)).mono ?_
        rintro e w9 ⟨rfl, x2, rfl⟩
        go_wp2_with fail
        refine (bel_call (HCM.out _ _ _ _ _)).mono ?_
        rintro e w9 ⟨rfl, x3, rfl⟩
        go_wp2
        go_ret
        exact ⟨rfl, H6.out.trans (x3.prop.mono H6.out.size)⟩
      · have at2 := at3.resolve_left hea
        have hnea := hea
        clear hea at3
        by_cases heb : l1 = b1 ∧ l2 = b2
        · clear at2
          by_cases z1 : l1 = a1
          · have z2 : ¬ l2 = a2 := fun e => hnea ⟨z1, e⟩
            have ma1 : (l1 == a1) = true := by simpa using z1
            have ma2 : (l2 == a2) = false := by simpa using z2
            clear z1 z2 hnea
            obtain ⟨h1, h2⟩ := heb
            have mb1 : (l1 == b1) = true := by simpa using h1
            have mb2 : (l2 == b2) = true := by simpa using h2
            clear h1 h2
            generalize hW : w6 = W
            obtain ⟨x0, rfl⟩ : ∃ x : Bel w6, W = x.val := ⟨⟨w6, br w6⟩, hW.symm⟩
            clear hW
            go_wp2_with fail
            refine (bel_call (HCM.out _ _ _ _ _)).mono ?_
            rintro e w9 ⟨rfl, x1, rfl⟩
            go_wp2_with fail
            refine (bel_call (HCM.out _ _ _ _ _)).mono ?_
            rintro e w9 ⟨rfl, x2, rfl⟩
            go_wp2_with fail
            refine (bel_call (HCM.out _ _ _ _ _)).mono ?_
            rintro e w9 ⟨rfl, x3, rfl⟩
            go_wp2
            go_ret
            exact ⟨rfl, H6.out.trans (x3.prop.mono H6.out.size)⟩
          · have ma1 : (l1 == a1) = false := by simpa using z1
            clear z1 hnea
            obtain ⟨h1, h2⟩ := heb
            have mb1 : (l1 == b1) = true := by simpa using h1
            have mb2 : (l2 == b2) = true := by simpa using h2
            clear h1 h2
            generalize hW : w6 = W
            obtain ⟨x0, rfl⟩ : ∃ x : Bel w6, W = x.val := ⟨⟨w6, br w6⟩, hW.symm⟩
            clear hW
            go_wp2_with fail
            refine (bel_call (HCM.out _ _ _ _ _)).mono ?_
            rintro e w9 ⟨rfl, x1, rfl⟩
            go_wp2_with fail
            refine (bel_call (HCM.out _ _ _ _ _)).mono ?_
            rintro e w9 ⟨rfl, x2, rfl⟩
            go_wp2_with fail
            refine (bel_call (HCM.out _ _ _ _ _)).mono ?_
            rintro e w9 ⟨rfl, x3, rfl⟩
            go_wp2
            go_ret
            exact ⟨rfl, H6.out.trans (x3.prop.mono H6.out.size)⟩
        · have at1 := at2.resolve_left heb
          have hneb := heb
          clear heb at2
          by_cases z1 : l1 = a1
          · have z2 : ¬ l2 = a2 := fun e => hnea ⟨z1, e⟩
            have ma1 : (l1 == a1) = true := by simpa using z1
            have ma2 : (l2 == a2) = false := by simpa using z2
            clear z1 z2 hnea
            by_cases z1 : l1 = b1
            · have z2 : ¬ l2 = b2 := fun e => hneb ⟨z1, e⟩
              have mb1 : (l1 == b1) = true := by simpa using z1
              have mb2 : (l2 == b2) = false := by simpa using z2
              clear z1 z2 hneb
              obtain ⟨h1, h2⟩ := at1
              have mc1 : (l1 == c1) = true := by simpa using h1
              have mc2 : (l2 == c2) = true := by simpa using h2
              clear h1 h2
              generalize hW : w6 = W
              obtain ⟨x0, rfl⟩ : ∃ x : Bel w6, W = x.val := ⟨⟨w6, br w6⟩, hW.symm⟩
              clear hW
              go_wp2_with fail
              refine (bel_call (HCM.out _ _ _ _ _)).mono ?_
              rintro e w9 ⟨rfl, x1, rfl⟩
              go_wp2_with fail
              refine (bel_call (HCM.out _ _ _ _ _)).mono ?_
              rintro e w9 ⟨rfl, x2, rfl⟩
              go_wp2_with fail
              refine (bel_call (HCM.out _ _ _ _ _)).mono ?_
              rintro e w9 ⟨rfl, x3, rfl⟩
              go_wp2
              go_ret
              exact ⟨rfl, H6.out.trans (x3.prop.mono H6.out.size)⟩
            · have mb1 : (l1 == b1) = false := by simpa using z1
              clear z1 hneb
              obtain ⟨h1, h2⟩ := at1
              have mc1 : (l1 == c1) = true := by simpa using h1
              have mc2 : (l2 == c2) = true := by simpa using h2
              clear h1 h2
              generalize hW : w6 = W
              obtain ⟨x0, rfl⟩ : ∃ x : Bel w6, W = x.val := ⟨⟨w6, br w6⟩, hW.symm⟩
              clear hW
              go_wp2_with fail
              refine (bel_call (HCM.out _ _ _ _ _)).mono ?_
              rintro e w9 ⟨rfl, x1, rfl⟩
              go_wp2_with fail
              refine (bel_call (HCM.out _ _ _ _ _)).mono ?_
              rintro e w9 ⟨rfl, x2, rfl⟩
              go_wp2_with fail
              refine (bel_call (HCM.out _ _ _ _ _)).mono ?_
              rintro e w9 ⟨rfl, x3, rfl⟩
              go_wp2
              go_ret
              exact ⟨rfl, H6.out.trans (x3.prop.mono H6.out.size)⟩
          · have ma1 : (l1 == a1) = false := by simpa using z1
            clear z1 hnea
            by_cases z1 : l1 = b1
            · have z2 : ¬ l2 = b2 := fun e => hneb ⟨z1, e⟩
              have mb1 : (l1 == b1) = true := by simpa using z1
              have mb2 : (l2 == b2) = false := by simpa using z2
              clear z1 z2 hneb
              obtain ⟨h1, h2⟩ := at1
              have mc1 : (l1 == c1) = true := by simpa using h1
              have mc2 : (l2 == c2) = true := by simpa using h2
              clear h1 h2
              generalize hW : w6 = W
              obtain ⟨x0, rfl⟩ : ∃ x : Bel w6, W = x.val := ⟨⟨w6, br w6⟩, hW.symm⟩
              clear hW
              go_wp2_with fail
              refine (bel_call (HCM.out _ _ _ _ _)).mono ?_
              rintro e w9 ⟨rfl, x1, rfl⟩
              go_wp2_with fail
              refine (bel_call (HCM.out _ _ _ _ _)).mono ?_
              rintro e w9 ⟨rfl, x2, rfl⟩
              go_wp2_with fail
              refine (bel_call (HCM.out _ _ _ _ _)).mono ?_
              rintro e w9 ⟨rfl, x3, rfl⟩
              go_wp2
              go_ret
              exact ⟨rfl, H6.out.trans (x3.prop.mono H6.out.size)⟩
            · have mb1 : (l1 == b1) = false := by simpa using z1
              clear z1 hneb
              obtain ⟨h1, h2⟩ := at1
              have mc1 : (l1 == c1) = true := by simpa using h1
              have mc2 : (l2 == c2) = true := by simpa using h2
              clear h1 h2
              generalize hW : w6 = W
              obtain ⟨x0, rfl⟩ : ∃ x : Bel w6, W = x.val := ⟨⟨w6, br w6⟩, hW.symm⟩
              clear hW
              go_wp2_with fail
              refine (bel_call (HCM.out _ _ _ _ _)).mono ?_
              rintro e w9 ⟨rfl, x1, rfl⟩
              go_wp2_with fail
              refine (bel_call (HCM.out _ _ _ _ _)).mono ?_
              rintro e w9 ⟨rfl, x2, rfl⟩
              go_wp2_with fail
              refine (bel_call (HCM.out _ _ _ _ _)).mono ?_
              rintro e w9 ⟨rfl, x3, rfl⟩
              go_wp2
              go_ret
              exact ⟨rfl, H6.out.trans (x3.prop.mono H6.out.size)⟩
end Go.Proofs.Ytodlmboagbjcbaa
