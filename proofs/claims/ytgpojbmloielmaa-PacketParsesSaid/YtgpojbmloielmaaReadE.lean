/-
  What a body's reader reads of an exchange.
  Conditions: those that each theorem names.
-/
import Derived.Test.YtgpojbmloielmaaReadD
namespace Go.Proofs.Ytgpojbmloielmaa
set_option linter.unusedVariables false
set_option linter.unusedSimpArgs false
open Go.RowKit
def rdEx (l : List UInt8) : Except Int (Exch × List UInt8) :=
  andR (rdProc l) fun who l => andR (rdConf l) fun o l => andR (rdVec l) fun cs l => andR (rdConf l) fun k l => .ok (⟨who, o.1, o.2, cs, k.1, k.2, none, 0⟩, l)
def ExEnd (R : Nat) (s : ByteArray) (w : World) (r : Except Int (Exch × List UInt8)) (e : Ending) (w' : World) : Prop := match r with
  | .ok x => (∃ ca cc, e = .returned (.agg (exA { x.1 with ca := ca, cc := cc })) ∧ OwnN w.heap.size w' ca x.1.cs cc) ∧ RdL w' R s x.2 ∧ KR R w w'
  | .error c => e = .panicked (panL c) ∧ KR R w w'
theorem exErr {R : Nat} {s : ByteArray} {w w' : World} {r : Except Int (Exch × List UInt8)} {c : Int} (hr : r = .error c) (hk : KR R w w') : ExEnd R s w r (.panicked (panL c)) w' := by subst hr; exact ⟨rfl, hk⟩
set_option maxRecDepth 100000 in
set_option maxHeartbeats 16000000 in
theorem ex_rd {w : World} {R : Nat} {s : ByteArray} {l0 : List UInt8} (h : RdL w R s l0) :
    Calls Try.prog 49 #[.agg #[.pointer (some ⟨R, 0, none⟩)]] w fun e w' => ExEnd R s w (rdEx l0) e w' := by
  obtain ⟨N, hN⟩ : ∃ N, N = w.heap.size := ⟨_, rfl⟩
  obtain ⟨W, hW⟩ : ∃ W, W = (w.alloc (.cells #[.pointer (some ⟨R, 0, none⟩)] 63)).alloc (.cells #[.int .i64 0, .int .u64 0, .int .i64 0, .slice none 0 0, .int .u64 0, .int .i64 0] 51) := ⟨_, rfl⟩
  have hb1 := ba (br w) (.cells #[.pointer (some ⟨R, 0, none⟩)] 63)
  have hb2 := ba (br (w.alloc (.cells #[.pointer (some ⟨R, 0, none⟩)] 63))) (.cells #[.int .i64 0, .int .u64 0, .int .i64 0, .slice none 0 0, .int .u64 0, .int .i64 0] 51)
  have n1 := (hb2.block w.heap.size (by simp)).trans (heap_alloc_new w (.cells #[.pointer (some ⟨R, 0, none⟩)] 63))
  have n2 := heap_alloc_new (w.alloc (.cells #[.pointer (some ⟨R, 0, none⟩)] 63)) (.cells #[.int .i64 0, .int .u64 0, .int .i64 0, .slice none 0 0, .int .u64 0, .int .i64 0] 51)
  rw [show (w.alloc (.cells #[.pointer (some ⟨R, 0, none⟩)] 63)).heap.size = w.heap.size + 1 by simp] at n2
  have hbA := bt hb1 hb2
  rw [← hW] at n1 n2 hbA
  rw [← hN] at n1 n2
  have HNR := Lib.hid (show N ≠ R ∧ N + 1 ≠ R ∧ R < N ∧ N = w.heap.size from ⟨by have := h.lt; omega, by have := h.lt; omega, by have := h.lt; omega, hN⟩)
  have c0 : W.cell? ⟨N, 0, none⟩ = some (.pointer (some ⟨R, 0, none⟩)) := cell_of_row _ _ 0 _ _ _ n1
  have hb0 : Below W.heap.size W W.drew := (br W).drew
  have hl := (h.below hbA).below hb0
  have HCV := Lib.hid (proc_rd hl)
  have HWV := Lib.hid (And.intro ((KR.below (R := R) hbA).trans (KR.below hb0)) (And.intro (show W.drew.heap[N]? = _ from n1) (show W.drew.heap[N + 1]? = _ from n2)))
  obtain ⟨r, hr⟩ : ∃ r, r = rdEx l0 := ⟨_, rfl⟩
  rw [← hr]
  have HR0 := Lib.hid hr
  clear n1 n2 hb1 hb2 hbA h hr hb0 hl
  go_enter Try.func49, Try.ntmps49
  go_upto_region 1 with (fail)
  rw [← hW, ← hN]
  clear hW hN
  refine wp_region_maskP (fun w' => w'.cell? ⟨N, 0, none⟩ = some (.pointer (some ⟨R, 0, none⟩))) 9 6 [true, false, true, false, true, false, true, false, false, false] #[true, false, true, false, true, false, true, false, false, false] (by kernel_rfl) (by kernel_rfl) (by kernel_rfl) (fun c a d v w h => by cases d <;> exact h) c0 ?_
  clear c0
  generalize W.drew = V at *
  refine wpMask_take _ (Or.inl ⟨by rfl, fun w' hS => by (try dsimp only at hS); go_simp; try with_reducible rfl⟩) ?_
  simp only [Act.put, List.setIfInBounds_toArray, List.set_cons_zero, List.set_cons_succ]
  refine wpMask_skip ?_
  refine wpMask_take _ (Or.inl ⟨by rfl, fun w' hS => by (try dsimp only at hS); go_simp; try with_reducible rfl⟩) ?_
  simp only [Act.put, List.setIfInBounds_toArray, List.set_cons_zero, List.set_cons_succ]
  refine wpMask_skip ?_
  refine wpMask_take _ (Or.inl ⟨by rfl, fun w' hS => by (try dsimp only at hS); go_simp; try with_reducible rfl⟩) ?_
  simp only [Act.put, List.setIfInBounds_toArray, List.set_cons_zero, List.set_cons_succ]
  refine wpMask_skip ?_
  refine wpMask_take _ (Or.inl ⟨by rfl, fun w' hS => by (try dsimp only at hS); go_simp; try with_reducible rfl⟩) ?_
  simp only [Act.put, List.setIfInBounds_toArray, List.set_cons_zero, List.set_cons_succ]
  refine wpMask_skip (wpMask_skip (wpMask_skip (wpMask_nil ?_)))
  refine wpAnyS_ready (rs := [1]) (by kernel_rfl) (by simp) ?_
  refine AllReadyS.cons rfl (fun K hK => ?_) AllReadyS.nil
  go_simp
  refine HCV.out.mono ?_
  intro e w1 h1
  rcases hn : rdProc l0 with c | ⟨who, l1⟩
  · rw [hn] at h1
    obtain ⟨rfl, hk⟩ := h1
    have HE := Lib.hid (exErr (s := s) (show r = .error c from by rw [HR0.out]; exact andR_err hn _) (HWV.out.1.trans hk))
    clear hn hk
    exact bodyPost_pan rfl HE.out
  rw [hn] at h1
  obtain ⟨rfl, h1, hk⟩ := h1
  have HR1 := Lib.hid (show r = andR (rdConf l1) fun o l => andR (rdVec l) fun cs l => andR (rdConf l) fun k l => .ok (⟨who, o.1, o.2, cs, k.1, k.2, none, 0⟩, l) from by rw [HR0.out]; exact andR_ok hn _)
  have HWw1 := Lib.hid (And.intro (HWV.out.1.trans hk) (And.intro (keep2 HWV.out.2.1 hk HNR.out.1) (keep2 HWV.out.2.2 hk HNR.out.2.1)))
  have HCw1 := Lib.hid (conf_rd h1)
  refine hK.out _ _ (fun _ => cell_of_row _ _ 0 _ _ _ HWw1.out.2.1) ?_
  clear hK K hn hk h1 HCV
  simp only [Act.put, List.setIfInBounds_toArray, List.set_cons_zero, List.set_cons_succ]
  refine wpAnyS_ready (rs := [3]) (by kernel_rfl) (by simp) ?_
  refine AllReadyS.cons rfl (fun K hK => ?_) AllReadyS.nil
  go_simp
  refine HCw1.out.mono ?_
  intro e w2 h1
  rcases hn : rdConf l1 with c | ⟨o, l2⟩
  · rw [hn] at h1
    obtain ⟨rfl, hk⟩ := h1
    have HE := Lib.hid (exErr (s := s) (show r = .error c from by rw [HR1.out]; exact andR_err hn _) (HWw1.out.1.trans hk))
    clear hn hk
    exact bodyPost_pan rfl HE.out
  rw [hn] at h1
  obtain ⟨rfl, h1, hk⟩ := h1
  have HR2 := Lib.hid (show r = andR (rdVec l2) fun cs l => andR (rdConf l) fun k l => .ok (⟨who, o.1, o.2, cs, k.1, k.2, none, 0⟩, l) from by rw [HR1.out]; exact andR_ok hn _)
  have HWw2 := Lib.hid (And.intro (HWw1.out.1.trans hk) (And.intro (keep2 HWw1.out.2.1 hk HNR.out.1) (keep2 HWw1.out.2.2 hk HNR.out.2.1)))
  have HCw2 := Lib.hid (vec_rd h1)
  refine hK.out _ _ (fun _ => cell_of_row _ _ 0 _ _ _ HWw2.out.2.1) ?_
  clear hK K hn hk h1 HCw1
  simp only [Act.put, List.setIfInBounds_toArray, List.set_cons_zero, List.set_cons_succ]
  refine wpAnyS_ready (rs := [5]) (by kernel_rfl) (by simp) ?_
  refine AllReadyS.cons rfl (fun K hK => ?_) AllReadyS.nil
  go_simp
  refine HCw2.out.mono ?_
  intro e w3 h1
  rcases hn : rdVec l2 with c | ⟨cs, l3⟩
  · rw [hn] at h1
    obtain ⟨rfl, hk⟩ := h1
    have HE := Lib.hid (exErr (s := s) (show r = .error c from by rw [HR2.out]; exact andR_err hn _) (HWw2.out.1.trans hk))
    clear hn hk
    exact bodyPost_pan rfl HE.out
  rw [hn] at h1
  obtain ⟨⟨ad, cap, rfl, ho⟩, h1, hk⟩ := h1
  have HR3 := Lib.hid (show r = andR (rdConf l3) fun k l => .ok (⟨who, o.1, o.2, cs, k.1, k.2, none, 0⟩, l) from by rw [HR2.out]; exact andR_ok hn _)
  have HWw3 := Lib.hid (And.intro (HWw2.out.1.trans hk) (And.intro (keep2 HWw2.out.2.1 hk HNR.out.1) (keep2 HWw2.out.2.2 hk HNR.out.2.1)))
  have hwN : N + 1 < w2.heap.size := (Array.getElem?_eq_some_iff.1 HWw2.out.2.2).1
  have HO := Lib.hid (And.intro ho hwN)
  clear ho hwN
  have HCw3 := Lib.hid (key_rd h1)
  refine hK.out _ _ (fun _ => cell_of_row _ _ 0 _ _ _ HWw3.out.2.1) ?_
  clear hK K hn hk h1 HCw2
  simp only [Act.put, List.setIfInBounds_toArray, List.set_cons_zero, List.set_cons_succ]
  refine wpAnyS_ready (rs := [7]) (by kernel_rfl) (by simp) ?_
  refine AllReadyS.cons rfl (fun K hK => ?_) AllReadyS.nil
  go_simp
  refine HCw3.out.mono ?_
  intro e w4 h1
  rcases hn : rdConf l3 with c | ⟨k, l4⟩
  · rw [hn] at h1
    obtain ⟨rfl, hk⟩ := h1
    have HE := Lib.hid (exErr (s := s) (show r = .error c from by rw [HR3.out]; exact andR_err hn _) (HWw3.out.1.trans hk))
    clear hn hk
    exact bodyPost_pan rfl HE.out
  rw [hn] at h1
  obtain ⟨rfl, h1, hk⟩ := h1
  have HR4 := Lib.hid (show r = .ok (⟨who, o.1, o.2, cs, k.1, k.2, none, 0⟩, l4) from by rw [HR3.out]; exact andR_ok hn _)
  have HWw4 := Lib.hid (And.intro (HWw3.out.1.trans hk) (And.intro (keep2 HWw3.out.2.1 hk HNR.out.1) (keep2 HWw3.out.2.2 hk HNR.out.2.1)))
  have ho := own_keptS HO.out.1 hk (fun b hb e => by have := (HO.out.1.lt b hb).1; have := HO.out.2; have := HNR.out.2.2.1; omega)
  have HO2 := Lib.hid (And.intro ho h1)
  clear ho
  refine hK.out _ _ (fun _ => cell_of_row _ _ 0 _ _ _ HWw4.out.2.1) ?_
  clear hK K hn hk h1 HCw3
  simp only [Act.put, List.setIfInBounds_toArray, List.set_cons_zero, List.set_cons_succ]
  refine wpAnyS_takeP (i := 8) _ (fun c a d v w h => by cases d <;> exact h) rfl (by kernel_rfl) (Or.inl ⟨by rfl, fun w' hS => by (try dsimp only at hS); go_simp; try with_reducible rfl⟩) (cell_of_row _ _ 0 _ _ _ HWw4.out.2.1) ?_
  simp only [Act.put, List.setIfInBounds_toArray, List.set_cons_zero, List.set_cons_succ, List.getElem_toArray, List.getElem_cons_succ, List.getElem_cons_zero]
  refine wpAnyS_ready (rs := [9]) (by kernel_rfl) (by simp) ?_
  refine AllReadyS.cons rfl (fun K hK => ?_) AllReadyS.nil
  rw [if_pos (by rfl)]
  refine wp_store_row 51 (.tmp 2) (.tmp 11) rfl (N + 1) #[.int .i64 (who : Int), .int .u64 (o.1 : Int), .int .i64 (o.2 : Int), .slice ad cs.length cap, .int .u64 (k.1 : Int), .int .i64 (k.2 : Int)] rfl rfl 51 _ HWw4.out.2.2 (by kernel_rfl) rfl (by simp [Value.oneCell']) ?_
  refine hK.out _ _ (fun h => absurd h (by decide)) ?_
  clear hK K
  simp only [Act.put, List.setIfInBounds_toArray, List.set_cons_zero, List.set_cons_succ]
  have hk6 := kept_setRow' w4 (N + 1) #[.int .i64 (who : Int), .int .u64 (o.1 : Int), .int .i64 (o.2 : Int), .slice ad cs.length cap, .int .u64 (k.1 : Int), .int .i64 (k.2 : Int)]
  have hNw := HNR.out.2.2.2
  have HE := Lib.hid (show ExEnd R s w r (.returned (.agg #[.int .i64 (who : Int), .int .u64 (o.1 : Int), .int .i64 (o.2 : Int), .slice ad cs.length cap, .int .u64 (k.1 : Int), .int .i64 (k.2 : Int)])) (w4.setRow (N + 1) #[.int .i64 (who : Int), .int .u64 (o.1 : Int), .int .i64 (o.2 : Int), .slice ad cs.length cap, .int .u64 (k.1 : Int), .int .i64 (k.2 : Int)]) from by
    rw [HR4.out]
    refine ⟨⟨ad, cap, rfl, ?_⟩, HO2.out.2.kept hk6 (fun e => HNR.out.2.1 e.symm), HWw4.out.1.above hk6 (fun k hk => by omega)⟩
    exact ownMore (own_keptS HO2.out.1 hk6 (fun b hb e => by have := (HO2.out.1.lt b hb).1; have := HO.out.2; omega)) (by have := HO.out.2; omega))
  clear hk6 hNw
  refine wpAnyS_doneP (by kernel_rfl) ?_ _
  go_wp2_with fail
  refine bodyPost_ret (results_cell_row Try.results49 _ _ (N + 1) 51 #[.int .i64 (who : Int), .int .u64 (o.1 : Int), .int .i64 (o.2 : Int), .slice ad cs.length cap, .int .u64 (k.1 : Int), .int .i64 (k.2 : Int)] (0, 0) _ rfl (setRow_heap _ _ _ _ _ _ HWw4.out.2.2) Try.underlying51 rfl (by kernel_rfl)) rfl ?_
  exact HE.out
end Go.Proofs.Ytgpojbmloielmaa
