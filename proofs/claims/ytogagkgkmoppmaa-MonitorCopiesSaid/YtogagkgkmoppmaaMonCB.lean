/-
  A stay's copy.
  Conditions: those that the theorem names.
-/
import Derived.Test.YtogagkgkmoppmaaMonCA
namespace Go.Proofs.Ytogagkgkmoppmaa
set_option linter.unusedVariables false
set_option linter.unusedSimpArgs false
open Go.RowKit GM
/-- what a stay's copy is -/
structure Like (x y : SX) : Prop where
  proj : projS y = projS x
  p0 : y.s.p0 = x.s.p0
  p1 : y.s.p1 = x.s.p1
  cnt : y.cnt = x.cnt
  proc : y.s.proc = x.s.proc
def SCopy (w : World) (b0 : Nat) (l : List Pc) (x : SX) (e : Ending) (w' : World) : Prop := ∃ y : SX, e = .returned (ptrV y.b) ∧ Like x y ∧ w.heap.size ≤ y.b ∧ Own w' b0 (stP y ++ l) ∧ Below w.heap.size w w'
def likeS (x : SX) (C : Nat) (r r' : SR) (cb : Nat) : SX := ⟨C, { x.s with p0 := r.l, a0 := r.ad, c0 := r.cap, p1 := r'.l, a1 := r'.ad, c1 := r'.cap, cb := cb }, x.cnt, x.ev⟩
theorem copy_own {w w1 w2 w3 w4 w5 w6 w7 : World} {b0 C : Nat} {l : List Pc} {x : SX} {r r' : SR} (hO : Own w b0 l) (hb0 : b0 ≤ w.heap.size) (hC : C = w.heap.size) (hb1 : Below w.heap.size w w1) (hc1 : w1.heap[C]? = some (.cells (stC x.s) 66 (0, 0)))
    (htr : ∀ b', x.s.tr = some b' → EvAt w b' x.ev) (hl : r.l = x.s.p0) (hr : RowOk w2 r) (hB : ∀ b, (rowPc r).blk = some b → w1.heap.size ≤ b) (hb2 : Below w1.heap.size w1 w2) (h3 : w3 = w2.setCell ⟨C, 4, none⟩ (slV r))
    (hl' : r'.l = x.s.p1) (hr' : RowOk w4 r') (hB' : ∀ b, (rowPc r').blk = some b → w3.heap.size ≤ b) (hb4 : Below w3.heap.size w3 w4) (h5 : w5 = w4.setCell ⟨C, 5, none⟩ (slV r'))
    (hg : GMap intV w6 w5.heap.size (vals intV x.cnt)) (hb6 : Below w5.heap.size w5 w6) (h7 : w7 = w6.setCell ⟨C, 6, none⟩ (.map (some w5.heap.size))) :
    Like x (likeS x C r r' w5.heap.size) ∧ Own w7 b0 (stP (likeS x C r r' w5.heap.size) ++ l) ∧ Below w.heap.size w w7 := by
  have hC1 : C < w1.heap.size := (Array.getElem?_eq_some_iff.1 hc1).1
  have hc2 := (hb2.block _ hC1).trans hc1
  have hc3 := setCell_block hc2 4 (slV r)
  rw [← h3] at hc3
  have z3 : w3.heap.size = w2.heap.size := by rw [h3]; simp [World.setCell]
  have hC3 : C < w3.heap.size := (Array.getElem?_eq_some_iff.1 hc3).1
  have hc4 := (hb4.block _ hC3).trans hc3
  have hc5 := setCell_block hc4 5 (slV r')
  rw [← h5] at hc5
  have z5 : w5.heap.size = w4.heap.size := by rw [h5]; simp [World.setCell]
  have hC5 : C < w5.heap.size := (Array.getElem?_eq_some_iff.1 hc5).1
  have hc6 := (hb6.block _ hC5).trans hc5
  have hc7 := setCell_block hc6 6 (.map (some w5.heap.size))
  rw [← h7] at hc7
  have hb3 : Below w.heap.size w w3 := by rw [h3]; exact bs (bt hb1 hb2) (p := ⟨C, 4, none⟩) (by show w.heap.size ≤ C; omega) _
  have hb5 : Below w.heap.size w w5 := by rw [h5]; exact bs (bt hb3 hb4) (p := ⟨C, 5, none⟩) (by show w.heap.size ≤ C; omega) _
  have hb7 : Below w.heap.size w w7 := by rw [h7]; exact bs (bt hb5 hb6) (p := ⟨C, 6, none⟩) (by show w.heap.size ≤ C; omega) _
  have k37 : Kept (fun b => b = C) w3 w7 := by
    have a1 : Kept (fun b => b = C) w3 w4 := Kept.of_below hb4
    have a2 : Kept (fun b => b = C) w4 w5 := by rw [h5]; exact keptS w4 ⟨C, 5, none⟩ _
    have a3 : Kept (fun b => b = C) w5 w6 := Kept.of_below hb6
    have a4 : Kept (fun b => b = C) w6 w7 := by rw [h7]; exact keptS w6 ⟨C, 6, none⟩ _
    exact ((a1.trans a2).trans a3).trans a4
  have k27 : Kept (fun b => b = C) w2 w7 := by
    have a1 : Kept (fun b => b = C) w2 w3 := by rw [h3]; exact keptS w2 ⟨C, 4, none⟩ _
    exact a1.trans k37
  have k47 : Kept (fun b => b = C) w4 w7 := by
    have a2 : Kept (fun b => b = C) w4 w5 := by rw [h5]; exact keptS w4 ⟨C, 5, none⟩ _
    have a3 : Kept (fun b => b = C) w5 w6 := Kept.of_below hb6
    have a4 : Kept (fun b => b = C) w6 w7 := by rw [h7]; exact keptS w6 ⟨C, 6, none⟩ _
    exact (a2.trans a3).trans a4
  have k67 : Kept (fun b => b = C) w6 w7 := by rw [h7]; exact keptS w6 ⟨C, 6, none⟩ _
  have q : ∀ (W : World) (cs : Array Value), W.heap[C]? = some (.cells cs 66 (0, 0)) → Quiet W (fun b => b = C) := fun W cs h b hb cs' t fr hc => by
    subst hb
    rw [h] at hc
    injection hc with hc
    injection hc with _ hc _
    subst hc
    exact ⟨by decide, by decide⟩
  have o2 : ∀ b, (rowPc r).blk = some b → w1.heap.size ≤ b ∧ b < w2.heap.size := fun b e => ⟨hB b e, ((rowPc r).lt w2 b hr e).1⟩
  have o4 : ∀ b, (rowPc r').blk = some b → w3.heap.size ≤ b ∧ b < w4.heap.size := fun b e => ⟨hB' b e, ((rowPc r').lt w4 b hr' e).1⟩
  have hr7 : RowOk w7 r := (rowPc r).keep w2 w7 _ hr k27 (fun b e h => by have := (o2 b e).1; have h : b = C := h; omega) (q w2 _ hc2)
  have hr7' : RowOk w7 r' := (rowPc r').keep w4 w7 _ hr' k47 (fun b e h => by have := (o4 b e).1; have h : b = C := h; omega) (q w4 _ hc4)
  have hg7 : GMap intV w7 w5.heap.size (vals intV x.cnt) := hg.keep (k67.block _ hg.lt (fun h => by have h : w5.heap.size = C := h; omega))
  have hcell : w7.heap[C]? = some (.cells (stC (likeS x C r r' w5.heap.size).s) 66 (0, 0)) := hc7
  refine ⟨⟨?_, hl, hl', rfl, rfl⟩, ?_, hb7⟩
  · unfold projS likeS trOf
    simp only [hl, hl']
  · refine Own.step (L := []) (L' := stP (likeS x C r r' w5.heap.size)) (R := l) hO hb0 (Kept.of_below hb7) ⟨?_, fun _ _ _ _ => Nat.zero_le _, ?_⟩ ?_
    · intro p hp
      simp only [stP, List.mem_cons, List.not_mem_nil, or_false] at hp
      rcases hp with rfl | rfl | rfl | rfl
      · exact ⟨hcell, fun b' hb' => hb7.block b' (Array.getElem?_eq_some_iff.1 (htr b' hb')).1 |>.trans (htr b' hb')⟩
      · exact hg7
      · exact hr7
      · exact hr7'
    · have n1 : ∀ b, (rowPc r).blk = some b → b ≠ C ∧ b ≠ w5.heap.size := fun b e => by
        have := o2 b e
        have := hb4.size
        omega
      have n2 : ∀ b, (rowPc r').blk = some b → b ≠ C ∧ b ≠ w5.heap.size := fun b e => by
        have := o4 b e
        omega
      have n3 : ∀ b, (rowPc r).blk = some b → (rowPc r').blk ≠ some b := fun b e e' => by
        have := o2 b e
        have := o4 b e'
        omega
      refine List.pairwise_cons.2 ⟨fun p hp b e e' => ?_, List.pairwise_cons.2 ⟨fun p hp b e e' => ?_, List.pairwise_cons.2 ⟨fun p hp b e e' => ?_, List.pairwise_singleton _ _⟩⟩⟩
      · have e : C = b := by injection e
        simp only [List.mem_cons, List.not_mem_nil, or_false] at hp
        rcases hp with rfl | rfl | rfl
        · have e' : w5.heap.size = b := by injection e'
          omega
        · exact (n1 b e').1 e.symm
        · exact (n2 b e').1 e.symm
      · have e : w5.heap.size = b := by injection e
        simp only [List.mem_cons, List.not_mem_nil, or_false] at hp
        rcases hp with rfl | rfl
        · exact (n1 b e').2 e.symm
        · exact (n2 b e').2 e.symm
      · rw [List.mem_singleton.1 hp] at e'
        exact n3 b e e'
    · intro p hp b e
      right
      simp only [stP, List.mem_cons, List.not_mem_nil, or_false] at hp
      have s1 := hb1.size
      rcases hp with rfl | rfl | rfl | rfl
      · have e : C = b := by injection e
        omega
      · have e : w5.heap.size = b := by injection e
        have := hb5.size
        omega
      · have := o2 b e
        omega
      · have := o4 b e
        have := hb3.size
        omega
set_option maxRecDepth 100000 in
set_option maxHeartbeats 8000000 in
theorem stayCopy_any (w : World) (b0 : Nat) (l : List Pc) (x : SX) (hO : Own w b0 l) (hb0 : b0 ≤ w.heap.size) (hx : ∀ p ∈ stP x, p.ok w) (hl0 : x.s.p0.length ≤ 10000) (hl1 : x.s.p1.length ≤ 10000) :
    Calls Try.prog 25 #[.pointer (some ⟨x.b, 0, none⟩)] w (SCopy w b0 l x) := by
  have hst : StAt w x.b x.s := (hx (stayPc x.b x.s x.ev) (by simp [stP])).1
  have htr : ∀ b', x.s.tr = some b' → EvAt w b' x.ev := (hx (stayPc x.b x.s x.ev) (by simp [stP])).2
  have hcb : GMap intV w x.s.cb (vals intV x.cnt) := hx (mapPc intV x.s.cb (vals intV x.cnt)) (by simp [stP])
  have hr0 : RowOk w (r0 x) := hx (rowPc (r0 x)) (by simp [stP])
  have hr1 : RowOk w (r1 x) := hx (rowPc (r1 x)) (by simp [stP])
  obtain ⟨cx, hcx⟩ : ∃ cx, cx = stC x.s := ⟨_, rfl⟩
  have y1 : cx.size = 9 := by rw [hcx]; rfl
  have p1 : cx.all (·.oneCell') = true := by rw [hcx]; simp [stC, Value.oneCell']
  obtain ⟨C, hC⟩ : ∃ C, C = w.heap.size := ⟨_, rfl⟩
  have hz := heap_alloc_new w (.cells #[.int .i64 0, .int .u64 0, .int .i64 0, .int .u64 0, .slice none 0 0, .slice none 0 0, .map none, .pointer none, .bool false] 66)
  have hbz := ba (br w) (.cells #[.int .i64 0, .int .u64 0, .int .i64 0, .int .u64 0, .slice none 0 0, .slice none 0 0, .map none, .pointer none, .bool false] 66)
  rw [← hC] at hz
  obtain ⟨w1, hw1⟩ : ∃ w1, w1 = (w.alloc (.cells #[.int .i64 0, .int .u64 0, .int .i64 0, .int .u64 0, .slice none 0 0, .slice none 0 0, .map none, .pointer none, .bool false] 66)).setRow C cx := ⟨_, rfl⟩
  have hb1 : Below w.heap.size w w1 := by rw [hw1]; exact (kept_setRow' (w.alloc (.cells #[.int .i64 0, .int .u64 0, .int .i64 0, .int .u64 0, .slice none 0 0, .slice none 0 0, .map none, .pointer none, .bool false] 66)) C cx).out hbz hbz.size (fun k hk' e => by omega)
  have hc1 : w1.heap[C]? = some (.cells cx 66 (0, 0)) := by rw [hw1]; exact setRow_heap _ _ _ _ _ _ hz
  have hst' : w.heap[x.b]? = some (.cells cx 66 (0, 0)) := by rw [hcx]; exact hst
  have HA := Lib.hid (And.intro hst' (And.intro y1 (And.intro p1 (And.intro hz hC))))
  have s4 : w1.cell? ⟨x.b, 4, none⟩ = some (.slice x.s.a0 x.s.p0.length x.s.c0) := cell_of_row _ _ 4 _ _ _ (hst.below hb1)
  have s5 : w1.cell? ⟨x.b, 5, none⟩ = some (.slice x.s.a1 x.s.p1.length x.s.c1) := cell_of_row _ _ 5 _ _ _ (hst.below hb1)
  have HC0 := Lib.hid (rowClone_any (r0 x) w1 ((rowPc (r0 x)).keep w w1 (fun _ => False) hr0 (Kept.of_below hb1) (fun _ _ h => h) (fun _ h => h.elim)) hl0)
  have HB := Lib.hid (And.intro hst (And.intro htr (And.intro hcb (And.intro hr1 (And.intro hO (And.intro hb0 (And.intro hb1 (And.intro hc1 (And.intro hl1 hcx)))))))))
  unfold slV at HC0
  have e0 : (r0 x).ad = x.s.a0 ∧ (r0 x).l = x.s.p0 ∧ (r0 x).cap = x.s.c0 := ⟨rfl, rfl, rfl⟩
  rw [e0.1, e0.2.1, e0.2.2] at HC0
  clear hst htr hcb hr0 hr1 hcx y1 p1 hz hbz hb1 hc1 hst' hl0 hl1 hO hb0 hC hx e0
  obtain ⟨q0, hq0⟩ : ∃ q, q = x.s.p0.length := ⟨_, rfl⟩
  obtain ⟨q1, hq1⟩ : ∃ q, q = x.s.p1.length := ⟨_, rfl⟩
  rw [← hq0] at s4 HC0
  rw [← hq1] at s5
  have HQ := Lib.hid (And.intro hq0 hq1)
  clear hq0 hq1
  obtain ⟨So, hSo⟩ : ∃ So, So = x.b := ⟨_, rfl⟩
  rw [← hSo] at s4 s5 HA ⊢
  have HSo := Lib.hid hSo
  clear hSo
  go_enter Try.func25, Try.ntmps25
  go_upto_region 2 with (first
    | (refine wpList_load_row rfl 66 (.tmp 7) rfl So rfl 66 cx (0, 0) _ HA.out.1 Try.underlying66 rfl (by rw [HA.out.2.1]; kernel_rfl) ?_)
    | (refine wpList_store_row rfl 66 (.tmp 3) (.tmp 8) rfl C cx (by rw [HA.out.2.2.2.2]; rfl) rfl 66 _ HA.out.2.2.2.1 (by rw [HA.out.2.1]; kernel_rfl) (by rw [HA.out.2.1]; rfl) HA.out.2.2.1 ?_))
  rw [← hw1, ← HA.out.2.2.2.2]
  clear hw1
  go_wp2_with fail
  have i0 : ∀ W : World, (Instr.index 62 (.agg #[.slice x.s.a0 q0 x.s.c0, .slice x.s.a1 q1 x.s.c1]) (.int .i64 0)).run Try.prog W = .ok (.slice x.s.a0 q0 x.s.c0) W := fun _ => by kernel_rfl
  have i1 : ∀ W : World, (Instr.index 62 (.agg #[.slice x.s.a0 q0 x.s.c0, .slice x.s.a1 q1 x.s.c1]) (.int .i64 1)).run Try.prog W = .ok (.slice x.s.a1 q1 x.s.c1) W := fun _ => by kernel_rfl
  refine wp_loop_rounds 3 ?_
  rw [rounds_succ]
  go_wp2_with fail
  refine HC0.out.mono ?_
  rintro e w2 ⟨r, rfl, hl, hr, hB, hb2⟩
  have hc2 : w2.heap[C]? = some (.cells cx 66 (0, 0)) := (hb2.block _ (Array.getElem?_eq_some_iff.1 HB.out.2.2.2.2.2.2.2.1).1).trans HB.out.2.2.2.2.2.2.2.1
  have f4 : w2.frozen? ⟨C, 4, none⟩ = false := frozen_of_row _ _ _ _ _ hc2
  have g4 : w2.cell? ⟨C, 4, none⟩ = some (.slice x.s.a0 q0 x.s.c0) := by
    rw [cell_of_row _ _ 4 _ _ _ hc2, HB.out.2.2.2.2.2.2.2.2.2, HQ.out.1]
    rfl
  obtain ⟨w3, hw3⟩ : ∃ w3, w3 = w2.setCell ⟨C, 4, none⟩ (slV r) := ⟨_, rfl⟩
  have hbx : Below w.heap.size w w3 := by
    rw [hw3]
    exact bs (bt HB.out.2.2.2.2.2.2.1 hb2) (p := ⟨C, 4, none⟩) (by show w.heap.size ≤ C; have := HA.out.2.2.2.2; omega) _
  have hc3 : w3.heap[C]? = some (.cells (cx.setIfInBounds 4 (slV r)) 66 (0, 0)) := by rw [hw3]; exact setCell_block hc2 4 _
  have HC1 := Lib.hid (rowClone_any (r1 x) w3 ((rowPc (r1 x)).keep w w3 (fun _ => False) HB.out.2.2.2.1 (Kept.of_below hbx) (fun _ _ h => h) (fun _ h => h.elim)) HB.out.2.2.2.2.2.2.2.2.1)
  have H2 := Lib.hid (And.intro hl (And.intro hr (And.intro hB (And.intro hb2 (And.intro hw3 (And.intro hbx hc3))))))
  clear hl hr hB hb2 hc2 hbx hc3 HC0 s4 s5
  unfold slV at hw3 HC1 ⊢
  have e0 : (r1 x).ad = x.s.a1 ∧ (r1 x).l = x.s.p1 ∧ (r1 x).cap = x.s.c1 := ⟨rfl, rfl, rfl⟩
  rw [e0.1, e0.2.1, e0.2.2, ← HQ.out.2] at HC1
  clear e0
  obtain ⟨rl, hrl⟩ : ∃ rl, rl = r.l.length := ⟨_, rfl⟩
  rw [← hrl] at hw3 ⊢
  clear hrl
  go_wp2_with fail
  rw [← hw3]
  clear hw3 f4 g4
  rw [rounds_succ]
  go_wp2_with fail
  refine HC1.out.mono ?_
  rintro e w4 ⟨r', rfl, hl, hr, hB, hb4⟩
  have hc4 : w4.heap[C]? = some (.cells (cx.setIfInBounds 4 (slV r)) 66 (0, 0)) := (hb4.block _ (Array.getElem?_eq_some_iff.1 H2.out.2.2.2.2.2.2).1).trans H2.out.2.2.2.2.2.2
  have f5 : w4.frozen? ⟨C, 5, none⟩ = false := frozen_of_row _ _ _ _ _ hc4
  have g5 : w4.cell? ⟨C, 5, none⟩ = some (.slice x.s.a1 q1 x.s.c1) := by
    rw [cell_of_row _ _ 5 _ _ _ hc4, HB.out.2.2.2.2.2.2.2.2.2, HQ.out.2]
    rfl
  obtain ⟨w5, hw5⟩ : ∃ w5, w5 = w4.setCell ⟨C, 5, none⟩ (slV r') := ⟨_, rfl⟩
  have hbx : Below w.heap.size w w5 := by
    rw [hw5]
    exact bs (bt H2.out.2.2.2.2.2.1 hb4) (p := ⟨C, 5, none⟩) (by show w.heap.size ≤ C; have := HA.out.2.2.2.2; omega) _
  have hc5 : w5.heap[C]? = some (.cells ((cx.setIfInBounds 4 (slV r)).setIfInBounds 5 (slV r')) 66 (0, 0)) := by rw [hw5]; exact setCell_block hc4 5 _
  have HCM := Lib.hid (clone_int intV x.s.cb (vals intV x.cnt) w5 (HB.out.2.2.1.below hbx HB.out.2.2.1.lt))
  have hst5 := HB.out.1.below hbx
  have s6 : w5.cell? ⟨So, 6, none⟩ = some (.map (some x.s.cb)) := by rw [HSo.out]; exact cell_of_row _ _ 6 _ _ _ hst5
  have H4 := Lib.hid (And.intro hl (And.intro hr (And.intro hB (And.intro hb4 (And.intro hw5 (And.intro hbx hc5))))))
  clear hl hr hB hb4 hc4 hbx hc5 hst5 HC1
  unfold slV at hw5 ⊢
  obtain ⟨rl', hrl'⟩ : ∃ rl, rl = r'.l.length := ⟨_, rfl⟩
  rw [← hrl'] at hw5 ⊢
  clear hrl'
  go_wp2_with fail
  rw [← hw5]
  clear hw5 f5 g5
  rw [rounds_succ]
  go_wp2_with fail
  refine HCM.out.mono ?_
  rintro e w6 ⟨rfl, hg, hb6⟩
  have hc6 := (hb6.block _ (Array.getElem?_eq_some_iff.1 H4.out.2.2.2.2.2.2).1).trans H4.out.2.2.2.2.2.2
  have f6 : w6.frozen? ⟨C, 6, none⟩ = false := frozen_of_row _ _ _ _ _ hc6
  have g6 : w6.cell? ⟨C, 6, none⟩ = some (.map (some x.s.cb)) := by
    rw [cell_of_row _ _ 6 _ _ _ hc6, HB.out.2.2.2.2.2.2.2.2.2]
    rfl
  obtain ⟨w7, hw7⟩ : ∃ w7, w7 = w6.setCell ⟨C, 6, none⟩ (.map (some w5.heap.size)) := ⟨_, rfl⟩
  have hfin := copy_own HB.out.2.2.2.2.1 HB.out.2.2.2.2.2.1 HA.out.2.2.2.2 HB.out.2.2.2.2.2.2.1 (by have h := HB.out.2.2.2.2.2.2.2.1; rw [HB.out.2.2.2.2.2.2.2.2.2] at h; exact h) HB.out.2.1
    (H2.out.1) H2.out.2.1 H2.out.2.2.1 H2.out.2.2.2.1 H2.out.2.2.2.2.1 H4.out.1 H4.out.2.1 H4.out.2.2.1 H4.out.2.2.2.1 H4.out.2.2.2.2.1 hg hb6 hw7
  have HF := Lib.hid (show SCopy w b0 l x (.returned (.pointer (some ⟨C, 0, none⟩))) w7 from ⟨_, rfl, hfin.1, by show w.heap.size ≤ C; have := HA.out.2.2.2.2; omega, hfin.2.1, hfin.2.2⟩)
  clear hfin hg hb6 hc6 HCM s6
  go_wp2_with fail
  rw [← hw7]
  go_ret
  exact HF.out
end Go.Proofs.Ytogagkgkmoppmaa
