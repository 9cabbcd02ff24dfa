/-
  What a body's reader reads of a process, a configuration, a key.
  Conditions: those that each theorem names.
-/
import Derived.Test.YtgpojbmloielmaaReadA
namespace Go.Proofs.Ytgpojbmloielmaa
set_option linter.unusedVariables false
set_option linter.unusedSimpArgs false
open Go.RowKit
theorem rdErr {R : Nat} {s : ByteArray} {w w' : World} {r : Except Int (Value × List UInt8)} {c : Int} (hr : r = .error c) (hk : KR R w w') : RdEnd R s w r (.panicked (panL c)) w' := by subst hr; exact ⟨rfl, hk⟩
theorem rdOk {R : Nat} {s : ByteArray} {w w' : World} {r : Except Int (Value × List UInt8)} {v : Value} {l' : List UInt8} (hr : r = .ok (v, l')) (h : RdL w' R s l') (hk : KR R w w') : RdEnd R s w r (.returned v) w' := by subst hr; exact ⟨rfl, h, hk⟩
def rdProc (l : List UInt8) : Except Int (Nat × List UInt8) := match rdN 1 l with
  | .error c => .error c
  | .ok (v, l') => if 64 ≤ v then .error 1 else .ok (v, l')
theorem rdProc_err {l : List UInt8} {c : Int} (h : rdN 1 l = .error c) : rdProc l = .error c := by unfold rdProc; rw [h]
theorem rdProc_bad {l l' : List UInt8} {v : Nat} (h : rdN 1 l = .ok (v, l')) (hv : 64 ≤ v) : rdProc l = .error 1 := by unfold rdProc; rw [h]; exact if_pos hv
theorem rdProc_ok {l l' : List UInt8} {v : Nat} (h : rdN 1 l = .ok (v, l')) (hv : ¬ 64 ≤ v) : rdProc l = .ok (v, l') := by unfold rdProc; rw [h]; exact if_neg hv
theorem rdProc_lt {l l' : List UInt8} {v : Nat} (h : rdProc l = .ok (v, l')) : v < 64 := by
  unfold rdProc at h
  split at h
  · cases h
  · split at h
    · cases h
    · injection h with h; injection h with h1 h2; omega
set_option maxHeartbeats 2000000 in
theorem proc_rd {w : World} {R : Nat} {s : ByteArray} {l : List UInt8} (h : RdL w R s l) :
    Calls Try.prog 48 #[.agg #[.pointer (some ⟨R, 0, none⟩)]] w fun e w' => RdEnd R s w (intR .i64 (rdProc l)) e w' := by
  obtain ⟨N, hN⟩ : ∃ N, N = w.heap.size := ⟨_, rfl⟩
  obtain ⟨W, hW⟩ : ∃ W, W = w.alloc (.cells #[.pointer (some ⟨R, 0, none⟩)] 63) := ⟨_, rfl⟩
  have hbA := ba (br w) (.cells #[.pointer (some ⟨R, 0, none⟩)] 63)
  have hxA := heap_alloc_new w (.cells #[.pointer (some ⟨R, 0, none⟩)] 63)
  rw [← hW] at hxA hbA
  rw [← hN] at hxA
  have c0 : W.cell? ⟨N, 0, none⟩ = some (.pointer (some ⟨R, 0, none⟩)) := cell_of_row _ _ 0 _ _ _ hxA
  have HN := Lib.hid (num_rd (h.below hbA) 1 (by omega) (by omega))
  have HK := Lib.hid (KR.below (R := R) hbA)
  obtain ⟨r, hr⟩ : ∃ r, r = intR .i64 (rdProc l) := ⟨_, rfl⟩
  rw [← hr]
  have HR := Lib.hid hr
  clear hxA hbA h hr
  go_enter Try.func48, Try.ntmps48
  go_upto_region 1 with (fail)
  rw [← hW, ← hN]
  clear hW hN
  go_wp2_with fail
  refine HN.out.mono ?_
  intro e w1 h1
  rcases hn : rdN 1 l with c | ⟨v, l'⟩
  · rw [hn] at h1
    obtain ⟨rfl, hk⟩ := h1
    have HE := Lib.hid (rdErr (s := s) (show r = .error c from by rw [HR.out, rdProc_err hn]; rfl) (HK.out.trans hk))
    clear hn hk HN
    exact bodyPost_pan rfl HE.out
  rw [hn] at h1
  obtain ⟨rfl, h1, hk⟩ := h1
  have hv : v < 256 := by simpa using (rdN_lt (by omega) hn).1
  have hw : IntKind.i64.wrap (v : Int) = (v : Int) := IntWalk.i64_in _ (by omega)
  by_cases h64 : 64 ≤ v
  · have HE := Lib.hid (rdErr (s := s) (show r = .error 1 from by rw [HR.out, rdProc_bad hn h64]; rfl) (HK.out.trans hk))
    have d1 : decide (64 ≤ v) = true := by simpa using h64
    have d2 : decide ((64 : Int) ≤ (v : Int)) = true := by simp; omega
    clear hn hk HN h1 c0 h64
    go_wp2_with (go_at_call 50; refine (bad_so 1 _).mono ?_; rintro e w' ⟨rfl, rfl⟩)
    exact bodyPost_pan rfl HE.out
  · have HE := Lib.hid (rdOk (show r = .ok (.int .i64 (v : Int), l') from by rw [HR.out, rdProc_ok hn h64]; rfl) h1 (HK.out.trans hk))
    have d1 : decide (64 ≤ v) = false := by simpa using h64
    have d2 : decide ((64 : Int) ≤ (v : Int)) = false := by simp; omega
    clear hn hk HN h1 c0 h64
    go_wp2_with (go_at_call 50; refine (bad_no 1 _).mono ?_; rintro e w' ⟨rfl, rfl⟩)
    go_ret
    exact HE.out
def rdConf (l : List UInt8) : Except Int ((Nat × Nat) × List UInt8) := match rdN 8 l with
  | .error c => .error c
  | .ok (e, l') => match rdProc l' with
    | .error c => .error c
    | .ok (r, l'') => .ok ((e, r), l'')
def confR (r : Except Int ((Nat × Nat) × List UInt8)) : Except Int (Value × List UInt8) := r.map fun x => (.agg #[.int .u64 (x.1.1 : Int), .int .i64 (x.1.2 : Int)], x.2)
theorem keep2 {R N : Nat} {w w' : World} {cs : Array Value} {t : TypeId} (h : w.heap[N]? = some (.cells cs t (0, 0))) (hk : KR R w w') (hne : N ≠ R) : w'.heap[N]? = some (.cells cs t (0, 0)) := Kept.keep hk h hne
set_option maxHeartbeats 4000000 in
theorem conf_rd {w : World} {R : Nat} {s : ByteArray} {l : List UInt8} (h : RdL w R s l) :
    Calls Try.prog 45 #[.agg #[.pointer (some ⟨R, 0, none⟩)]] w fun e w' => RdEnd R s w (confR (rdConf l)) e w' := by
  obtain ⟨N, hN⟩ : ∃ N, N = w.heap.size := ⟨_, rfl⟩
  obtain ⟨W, hW⟩ : ∃ W, W = (w.alloc (.cells #[.pointer (some ⟨R, 0, none⟩)] 63)).alloc (.cells #[.int .u64 0, .int .i64 0] 28) := ⟨_, rfl⟩
  have hb1 := ba (br w) (.cells #[.pointer (some ⟨R, 0, none⟩)] 63)
  have hb2 := ba (br (w.alloc (.cells #[.pointer (some ⟨R, 0, none⟩)] 63))) (.cells #[.int .u64 0, .int .i64 0] 28)
  have n1 := (hb2.block w.heap.size (by simp)).trans (heap_alloc_new w (.cells #[.pointer (some ⟨R, 0, none⟩)] 63))
  have n2 := heap_alloc_new (w.alloc (.cells #[.pointer (some ⟨R, 0, none⟩)] 63)) (.cells #[.int .u64 0, .int .i64 0] 28)
  rw [show (w.alloc (.cells #[.pointer (some ⟨R, 0, none⟩)] 63)).heap.size = w.heap.size + 1 by simp] at n2
  have hbA := bt hb1 hb2
  rw [← hW] at n1 n2 hbA
  rw [← hN] at n1 n2
  have hNR : N ≠ R := by have := h.lt; omega
  have hNR1 : N + 1 ≠ R := by have := h.lt; omega
  have c0 : W.cell? ⟨N, 0, none⟩ = some (.pointer (some ⟨R, 0, none⟩)) := cell_of_row _ _ 0 _ _ _ n1
  have hb0 : Below W.heap.size W W.drew := (br W).drew
  have HSZ := Lib.hid hN
  have HN := Lib.hid (num_rd ((h.below hbA).below hb0) 8 (by omega) (by omega))
  have H0 := Lib.hid (And.intro ((KR.below (R := R) hbA).trans (KR.below hb0)) (And.intro (show W.drew.heap[N]? = _ from n1) (And.intro (show W.drew.heap[N + 1]? = _ from n2) (And.intro hNR hNR1))))
  obtain ⟨r, hr⟩ : ∃ r, r = confR (rdConf l) := ⟨_, rfl⟩
  rw [← hr]
  have HR := Lib.hid hr
  clear n1 n2 hb1 hb2 hbA h hr hNR hNR1 hb0
  go_enter Try.func45, Try.ntmps45
  go_upto_region 1 with (fail)
  rw [← hW, ← hN]
  clear hW hN
  refine wp_region_maskP (fun w' => w'.cell? ⟨N, 0, none⟩ = some (.pointer (some ⟨R, 0, none⟩))) 6 4 [true, true, false, true, false, false, false] #[true, true, false, true, false, false, false] (by kernel_rfl) (by kernel_rfl) (by kernel_rfl) (fun c a d v w h => by cases d <;> exact h) c0 ?_
  clear c0
  generalize W.drew = V at *
  refine wpMask_take _ (Or.inl ⟨by rfl, fun w' hS => by (try dsimp only at hS); go_simp; try with_reducible rfl⟩) ?_
  simp only [Act.put, List.setIfInBounds_toArray, List.set_cons_zero, List.set_cons_succ]
  refine wpMask_take _ (Or.inl ⟨by rfl, fun w' hS => by (try dsimp only at hS); go_simp; try with_reducible rfl⟩) ?_
  simp only [Act.put, List.setIfInBounds_toArray, List.set_cons_zero, List.set_cons_succ]
  refine wpMask_skip ?_
  refine wpMask_take _ (Or.inl ⟨by rfl, fun w' hS => by (try dsimp only at hS); go_simp; try with_reducible rfl⟩) ?_
  simp only [Act.put, List.setIfInBounds_toArray, List.set_cons_zero, List.set_cons_succ]
  refine wpMask_skip (wpMask_skip (wpMask_skip (wpMask_nil ?_)))
  refine wpAnyS_ready (rs := [2]) (by kernel_rfl) (by simp) ?_
  refine AllReadyS.cons rfl (fun K hK => ?_) AllReadyS.nil
  go_simp
  refine HN.out.mono ?_
  intro e w1 h1
  rcases hn : rdN 8 l with c | ⟨v, l'⟩
  · rw [hn] at h1
    obtain ⟨rfl, hk⟩ := h1
    have HE := Lib.hid (rdErr (s := s) (show r = .error c from by rw [HR.out]; unfold rdConf; rw [hn]; rfl) (H0.out.1.trans hk))
    clear hn hk HN
    exact bodyPost_pan rfl HE.out
  rw [hn] at h1
  obtain ⟨rfl, h1, hk⟩ := h1
  have m1 := keep2 H0.out.2.1 hk H0.out.2.2.2.1
  refine hK.out _ _ (fun _ => cell_of_row _ _ 0 _ _ _ m1) ?_
  clear hK K
  simp only [Act.put, List.setIfInBounds_toArray, List.set_cons_zero, List.set_cons_succ]
  have HP := Lib.hid (proc_rd h1)
  have H1 := Lib.hid (And.intro (H0.out.1.trans hk) (And.intro m1 (keep2 H0.out.2.2.1 hk H0.out.2.2.2.2)))
  have HN1 := Lib.hid hn
  clear h1 hk m1 hn HN
  refine wpAnyS_ready (rs := [4]) (by kernel_rfl) (by simp) ?_
  refine AllReadyS.cons rfl (fun K hK => ?_) AllReadyS.nil
  go_simp
  refine HP.out.mono ?_
  intro e w2 h2
  rcases hn : rdProc l' with c | ⟨v2, l2⟩
  · rw [hn] at h2
    obtain ⟨rfl, hk⟩ := h2
    have HE := Lib.hid (rdErr (s := s) (show r = .error c from by rw [HR.out]; unfold rdConf; rw [HN1.out]; simp only []; rw [hn]; rfl) (H1.out.1.trans hk))
    clear hn hk HP
    exact bodyPost_pan rfl HE.out
  rw [hn] at h2
  obtain ⟨rfl, h2, hk⟩ := h2
  have m1 := keep2 H1.out.2.1 hk H0.out.2.2.2.1
  refine hK.out _ _ (fun _ => cell_of_row _ _ 0 _ _ _ m1) ?_
  clear hK K
  simp only [Act.put, List.setIfInBounds_toArray, List.set_cons_zero, List.set_cons_succ]
  have m2 := keep2 H1.out.2.2 hk H0.out.2.2.2.2
  refine wpAnyS_ready (rs := [5]) (by kernel_rfl) (by simp) ?_
  refine AllReadyS.cons rfl (fun K hK => ?_) AllReadyS.nil
  go_simp
  refine hK.out _ _ (fun _ => cell_of_row _ _ 0 _ _ _ m1) ?_
  clear hK K
  simp only [Act.put, List.setIfInBounds_toArray, List.set_cons_zero, List.set_cons_succ]
  have d0 : w2.cell? ⟨N + 1, 0, none⟩ = some (.int .u64 0) := cell_of_row _ _ 0 _ _ _ m2
  have d1 : w2.cell? ⟨N + 1, 1, none⟩ = some (.int .i64 0) := cell_of_row _ _ 1 _ _ _ m2
  have f0 : w2.frozen? ⟨N + 1, 0, none⟩ = false := frozen_of_row _ _ _ _ _ m2
  have f1 : w2.frozen? ⟨N + 1, 1, none⟩ = false := frozen_of_row _ _ _ _ _ m2
  refine wpAnyS_ready (rs := [6]) (by kernel_rfl) (by simp) ?_
  refine AllReadyS.cons rfl (fun K hK => ?_) AllReadyS.nil
  go_simp
  refine hK.out _ _ (fun h => absurd h (by decide)) ?_
  clear hK K
  simp only [Act.put, List.setIfInBounds_toArray, List.set_cons_zero, List.set_cons_succ]
  have k2 : Kept (fun b => b = N + 1) w2 ((w2.setCell ⟨N + 1, 0, none⟩ (.int .u64 (v : Int))).setCell ⟨N + 1, 1, none⟩ (.int .i64 (v2 : Int))) := ((show Kept (fun b => b = N + 1) w2 w2 from .refl _ _).setCell (p := ⟨N + 1, 0, none⟩) rfl _).setCell (p := ⟨N + 1, 1, none⟩) rfl _
  have m4 := setCell_block (setCell_block m2 0 (.int .u64 (v : Int))) 1 (.int .i64 (v2 : Int))
  have HE := Lib.hid (show RdEnd R s w r (.returned (.agg #[.int .u64 (v : Int), .int .i64 (v2 : Int)])) ((w2.setCell ⟨N + 1, 0, none⟩ (.int .u64 (v : Int))).setCell ⟨N + 1, 1, none⟩ (.int .i64 (v2 : Int))) from
    rdOk (by rw [HR.out]; unfold rdConf; rw [HN1.out]; simp only []; rw [hn]; rfl) (h2.kept k2 (fun e => H0.out.2.2.2.2 e.symm)) (by
      have hh := H1.out.1.trans hk
      refine ⟨k2.os.trans hh.os, k2.tape.trans hh.tape, k2.output.trans hh.output, Nat.le_trans hh.size k2.size, fun i hi hs => ?_⟩
      have := hh.block i hi hs
      exact (k2.block i (Nat.lt_of_lt_of_le hi hh.size) (fun e => by rw [HSZ.out] at e; omega)).trans this))
  refine wpAnyS_doneP (by kernel_rfl) ?_ _
  go_wp2_with fail
  refine bodyPost_ret (results_cell_row Try.results45 _ _ (N + 1) 28 #[.int .u64 (v : Int), .int .i64 (v2 : Int)] (0, 0) _ rfl m4 Try.underlying28 rfl (by kernel_rfl)) rfl ?_
  exact HE.out
set_option maxHeartbeats 4000000 in
theorem key_rd {w : World} {R : Nat} {s : ByteArray} {l : List UInt8} (h : RdL w R s l) :
    Calls Try.prog 79 #[.agg #[.pointer (some ⟨R, 0, none⟩)]] w fun e w' => RdEnd R s w (confR (rdConf l)) e w' := by
  obtain ⟨N, hN⟩ : ∃ N, N = w.heap.size := ⟨_, rfl⟩
  obtain ⟨W, hW⟩ : ∃ W, W = (w.alloc (.cells #[.pointer (some ⟨R, 0, none⟩)] 63)).alloc (.cells #[.int .u64 0, .int .i64 0] 49) := ⟨_, rfl⟩
  have hb1 := ba (br w) (.cells #[.pointer (some ⟨R, 0, none⟩)] 63)
  have hb2 := ba (br (w.alloc (.cells #[.pointer (some ⟨R, 0, none⟩)] 63))) (.cells #[.int .u64 0, .int .i64 0] 49)
  have n1 := (hb2.block w.heap.size (by simp)).trans (heap_alloc_new w (.cells #[.pointer (some ⟨R, 0, none⟩)] 63))
  have n2 := heap_alloc_new (w.alloc (.cells #[.pointer (some ⟨R, 0, none⟩)] 63)) (.cells #[.int .u64 0, .int .i64 0] 49)
  rw [show (w.alloc (.cells #[.pointer (some ⟨R, 0, none⟩)] 63)).heap.size = w.heap.size + 1 by simp] at n2
  have hbA := bt hb1 hb2
  rw [← hW] at n1 n2 hbA
  rw [← hN] at n1 n2
  have hNR : N ≠ R := by have := h.lt; omega
  have hNR1 : N + 1 ≠ R := by have := h.lt; omega
  have c0 : W.cell? ⟨N, 0, none⟩ = some (.pointer (some ⟨R, 0, none⟩)) := cell_of_row _ _ 0 _ _ _ n1
  have hb0 : Below W.heap.size W W.drew := (br W).drew
  have HSZ := Lib.hid hN
  have HN := Lib.hid (num_rd ((h.below hbA).below hb0) 8 (by omega) (by omega))
  have H0 := Lib.hid (And.intro ((KR.below (R := R) hbA).trans (KR.below hb0)) (And.intro (show W.drew.heap[N]? = _ from n1) (And.intro (show W.drew.heap[N + 1]? = _ from n2) (And.intro hNR hNR1))))
  obtain ⟨r, hr⟩ : ∃ r, r = confR (rdConf l) := ⟨_, rfl⟩
  rw [← hr]
  have HR := Lib.hid hr
  clear n1 n2 hb1 hb2 hbA h hr hNR hNR1 hb0
  go_enter Try.func79, Try.ntmps79
  go_upto_region 1 with (fail)
  rw [← hW, ← hN]
  clear hW hN
  refine wp_region_maskP (fun w' => w'.cell? ⟨N, 0, none⟩ = some (.pointer (some ⟨R, 0, none⟩))) 6 4 [true, true, false, true, false, false, false] #[true, true, false, true, false, false, false] (by kernel_rfl) (by kernel_rfl) (by kernel_rfl) (fun c a d v w h => by cases d <;> exact h) c0 ?_
  clear c0
  generalize W.drew = V at *
  refine wpMask_take _ (Or.inl ⟨by rfl, fun w' hS => by (try dsimp only at hS); go_simp; try with_reducible rfl⟩) ?_
  simp only [Act.put, List.setIfInBounds_toArray, List.set_cons_zero, List.set_cons_succ]
  refine wpMask_take _ (Or.inl ⟨by rfl, fun w' hS => by (try dsimp only at hS); go_simp; try with_reducible rfl⟩) ?_
  simp only [Act.put, List.setIfInBounds_toArray, List.set_cons_zero, List.set_cons_succ]
  refine wpMask_skip ?_
  refine wpMask_take _ (Or.inl ⟨by rfl, fun w' hS => by (try dsimp only at hS); go_simp; try with_reducible rfl⟩) ?_
  simp only [Act.put, List.setIfInBounds_toArray, List.set_cons_zero, List.set_cons_succ]
  refine wpMask_skip (wpMask_skip (wpMask_skip (wpMask_nil ?_)))
  refine wpAnyS_ready (rs := [2]) (by kernel_rfl) (by simp) ?_
  refine AllReadyS.cons rfl (fun K hK => ?_) AllReadyS.nil
  go_simp
  refine HN.out.mono ?_
  intro e w1 h1
  rcases hn : rdN 8 l with c | ⟨v, l'⟩
  · rw [hn] at h1
    obtain ⟨rfl, hk⟩ := h1
    have HE := Lib.hid (rdErr (s := s) (show r = .error c from by rw [HR.out]; unfold rdConf; rw [hn]; rfl) (H0.out.1.trans hk))
    clear hn hk HN
    exact bodyPost_pan rfl HE.out
  rw [hn] at h1
  obtain ⟨rfl, h1, hk⟩ := h1
  have m1 := keep2 H0.out.2.1 hk H0.out.2.2.2.1
  refine hK.out _ _ (fun _ => cell_of_row _ _ 0 _ _ _ m1) ?_
  clear hK K
  simp only [Act.put, List.setIfInBounds_toArray, List.set_cons_zero, List.set_cons_succ]
  have HP := Lib.hid (proc_rd h1)
  have H1 := Lib.hid (And.intro (H0.out.1.trans hk) (And.intro m1 (keep2 H0.out.2.2.1 hk H0.out.2.2.2.2)))
  have HN1 := Lib.hid hn
  clear h1 hk m1 hn HN
  refine wpAnyS_ready (rs := [4]) (by kernel_rfl) (by simp) ?_
  refine AllReadyS.cons rfl (fun K hK => ?_) AllReadyS.nil
  go_simp
  refine HP.out.mono ?_
  intro e w2 h2
  rcases hn : rdProc l' with c | ⟨v2, l2⟩
  · rw [hn] at h2
    obtain ⟨rfl, hk⟩ := h2
    have HE := Lib.hid (rdErr (s := s) (show r = .error c from by rw [HR.out]; unfold rdConf; rw [HN1.out]; simp only []; rw [hn]; rfl) (H1.out.1.trans hk))
    clear hn hk HP
    exact bodyPost_pan rfl HE.out
  rw [hn] at h2
  obtain ⟨rfl, h2, hk⟩ := h2
  have m1 := keep2 H1.out.2.1 hk H0.out.2.2.2.1
  refine hK.out _ _ (fun _ => cell_of_row _ _ 0 _ _ _ m1) ?_
  clear hK K
  simp only [Act.put, List.setIfInBounds_toArray, List.set_cons_zero, List.set_cons_succ]
  have m2 := keep2 H1.out.2.2 hk H0.out.2.2.2.2
  refine wpAnyS_ready (rs := [5]) (by kernel_rfl) (by simp) ?_
  refine AllReadyS.cons rfl (fun K hK => ?_) AllReadyS.nil
  go_simp
  refine hK.out _ _ (fun _ => cell_of_row _ _ 0 _ _ _ m1) ?_
  clear hK K
  simp only [Act.put, List.setIfInBounds_toArray, List.set_cons_zero, List.set_cons_succ]
  have d0 : w2.cell? ⟨N + 1, 0, none⟩ = some (.int .u64 0) := cell_of_row _ _ 0 _ _ _ m2
  have d1 : w2.cell? ⟨N + 1, 1, none⟩ = some (.int .i64 0) := cell_of_row _ _ 1 _ _ _ m2
  have f0 : w2.frozen? ⟨N + 1, 0, none⟩ = false := frozen_of_row _ _ _ _ _ m2
  have f1 : w2.frozen? ⟨N + 1, 1, none⟩ = false := frozen_of_row _ _ _ _ _ m2
  refine wpAnyS_ready (rs := [6]) (by kernel_rfl) (by simp) ?_
  refine AllReadyS.cons rfl (fun K hK => ?_) AllReadyS.nil
  go_simp
  refine hK.out _ _ (fun h => absurd h (by decide)) ?_
  clear hK K
  simp only [Act.put, List.setIfInBounds_toArray, List.set_cons_zero, List.set_cons_succ]
  have k2 : Kept (fun b => b = N + 1) w2 ((w2.setCell ⟨N + 1, 0, none⟩ (.int .u64 (v : Int))).setCell ⟨N + 1, 1, none⟩ (.int .i64 (v2 : Int))) := ((show Kept (fun b => b = N + 1) w2 w2 from .refl _ _).setCell (p := ⟨N + 1, 0, none⟩) rfl _).setCell (p := ⟨N + 1, 1, none⟩) rfl _
  have m4 := setCell_block (setCell_block m2 0 (.int .u64 (v : Int))) 1 (.int .i64 (v2 : Int))
  have HE := Lib.hid (show RdEnd R s w r (.returned (.agg #[.int .u64 (v : Int), .int .i64 (v2 : Int)])) ((w2.setCell ⟨N + 1, 0, none⟩ (.int .u64 (v : Int))).setCell ⟨N + 1, 1, none⟩ (.int .i64 (v2 : Int))) from
    rdOk (by rw [HR.out]; unfold rdConf; rw [HN1.out]; simp only []; rw [hn]; rfl) (h2.kept k2 (fun e => H0.out.2.2.2.2 e.symm)) (by
      have hh := H1.out.1.trans hk
      refine ⟨k2.os.trans hh.os, k2.tape.trans hh.tape, k2.output.trans hh.output, Nat.le_trans hh.size k2.size, fun i hi hs => ?_⟩
      have := hh.block i hi hs
      exact (k2.block i (Nat.lt_of_lt_of_le hi hh.size) (fun e => by rw [HSZ.out] at e; omega)).trans this))
  refine wpAnyS_doneP (by kernel_rfl) ?_ _
  go_wp2_with fail
  refine bodyPost_ret (results_cell_row Try.results79 _ _ (N + 1) 49 #[.int .u64 (v : Int), .int .i64 (v2 : Int)] (0, 0) _ rfl m4 Try.underlying49 rfl (by kernel_rfl)) rfl ?_
  exact HE.out
end Go.Proofs.Ytgpojbmloielmaa
