/-
  What a body's writer writes of a message and of an exchange.
  Conditions: those that each theorem names.
-/
import Derived.Test.YtgpojbmloielmaaPackB
import Derived.Lib.AppendStr
namespace Go.Proofs.Ytgpojbmloielmaa
set_option linter.unusedVariables false
set_option linter.unusedSimpArgs false
open Go.RowKit
def msgL (m : Msg) : Except Int (List UInt8) :=
  if m.service < 0 ∨ 2 < m.service then .error 1 else if 1024 < m.pay.size then .error 3
  else cat (.ok (putL m.seq 4)) (cat (.ok (putL m.stamp 8)) (cat (.ok (putL m.service.toNat 1)) (cat (vecL m.ds) (cat (.ok (putL m.pay.size 2)) (.ok m.pay.data.toList)))))
theorem msg_cells {w : World} {N : Nat} {m : Msg} {t : TypeId} (h : w.heap[N]? = some (.cells (msgA m) t (0, 0))) :
    w.cell? ⟨N, 0, none⟩ = some (.int .i64 m.frm) ∧ w.cell? ⟨N, 1, none⟩ = some (.int .u32 (m.seq : Int)) ∧ w.cell? ⟨N, 2, none⟩ = some (.int .u64 (m.stamp : Int)) ∧ w.cell? ⟨N, 3, none⟩ = some (.int .i64 m.service) ∧ w.cell? ⟨N, 4, none⟩ = some (.slice m.da m.ds.length m.dc) ∧ w.cell? ⟨N, 5, none⟩ = some (.string m.pay) :=
  ⟨cell_of_row _ _ 0 _ _ _ h, cell_of_row _ _ 1 _ _ _ h, cell_of_row _ _ 2 _ _ _ h, cell_of_row _ _ 3 _ _ _ h, cell_of_row _ _ 4 _ _ _ h, cell_of_row _ _ 5 _ _ _ h⟩
theorem strCells_ints (s : ByteArray) : Lib.strCells s = ints s.data.toList := rfl
theorem step_append_string {P : Program} {w : World} {ops : Array Oper} {o : Oper} {a : Act} {K : Act → World → Prop} {Q : Exit → Act → World → Prop} {E : Prop} (hgd : o.guard = none) (sl x : Operand) (t u : TypeId)
    (ho : o.op = .call { callee := .builtin .append, args := #[sl, x], argTypes := #[t, u] })
    (base : Nat) (e : TypeId) (i : TypeInfo) (ht : P.underlying t = some (.slice e)) (hu : P.underlying u = some .string) (hi : P.info? e = some i) (hz : i.zero = some (.int .u8 0))
    (hsize : i.size = 1) (hby : i.bytes = 1)
    (v : Value) (n : Nat) (xs : List Value) (hs : a.eval sl = v) (hown : w.ownsRow base e 1 v n xs) (s : ByteArray) (hx : a.eval x = .string s)
    (h63 : n + s.size ≤ maxLen) (hbytes : n + s.size ≤ 140737488355328) (hbase : base ≤ w.heap.size)
    (h : ∀ v' w', w'.ownsRow base e 1 v' (n + s.size) (xs ++ Lib.strCells s) → w.grownBy w' v.ownBlock → K (a.put o.dst v') w') : if Region.wanted o (yielded ops a.tmps) = true then Oper.wp P o a w K Q else E := by
  have hw : Region.wanted o (yielded ops a.tmps) = true := by simp [Region.wanted, hgd]
  rw [if_pos hw]
  obtain ⟨v', w', hr, h2, h3, h4⟩ := Lib.run_append_own_string (P := P) w base t u o.type e i ht hu hi hz hsize hby v n xs hown s h63 hbytes hbase
  unfold Oper.wp execOp
  simp only [ho, resolve, invoke, builtin, Sem.run_bind, Sem.run_pure, Result.andThen_ok, List.map_toArray, List.map_cons, List.map_nil, hs, hx, hr]
  exact h v' w' h2 h3
/-- a message's parts that are told -/
def MsgW (w0 : World) (m : Msg) : Prop := m.pay.size ≤ 140737488351232 ∧ m.seq < 4294967296 ∧ m.stamp < 18446744073709551616 ∧ NumsOk w0 m.da m.ds
set_option maxHeartbeats 8000000 in
theorem wMsg_any {w0 w : World} {l : List UInt8} (h : WrAt w0.heap.size w0 w l) (m : Msg) (hl : l.length ≤ 99000000) (hm : MsgW w0 m) :
    Calls Try.prog 62 #[.pointer (some ⟨w0.heap.size, 0, none⟩), .agg (msgA m)] w fun e w' => WrEnd w0.heap.size w0 w l (msgL m) e w' := by
  obtain ⟨N, hN⟩ : ∃ N, N = w.heap.size := ⟨_, rfl⟩
  obtain ⟨W, hW⟩ : ∃ W, W = w.alloc (.cells (msgA m) 32) := ⟨_, rfl⟩
  have hbA := ba (br w) (.cells (msgA m) 32)
  have hxA := heap_alloc_new w (.cells (msgA m) 32)
  rw [← hW] at hxA hbA
  rw [← hN] at hxA
  have HWA := Lib.hid (h.below hbA)
  have hne : N ≠ w0.heap.size := by have := h.lt; omega
  have HB := Lib.hid (And.intro hne (And.intro (KeptT.of_below (B := w0.heap.size) hbA) hxA))
  have HM := Lib.hid hm
  have HL := Lib.hid hl
  obtain ⟨r, hr⟩ : ∃ r, r = msgL m := ⟨_, rfl⟩
  rw [← hr]
  unfold msgL at hr
  clear hne hm hbA h hl
  have hma : msgA m = #[.int .i64 m.frm, .int .u32 (m.seq : Int), .int .u64 (m.stamp : Int), .int .i64 m.service, .slice m.da m.ds.length m.dc, .string m.pay] := rfl
  rw [hma] at hW ⊢
  obtain ⟨c0, c1, c2, c3, c4, c5⟩ := msg_cells hxA
  clear hxA
  go_enter Try.func62, Try.ntmps62
  go_upto_region 1 with (fail)
  rw [← hW, ← hN]
  clear hma hW hN
  by_cases h1 : m.service < 0
  · rw [if_pos (.inl h1)] at hr
    have d1 : decide (m.service < 0) = true := by simpa using h1
    have HR := Lib.hid hr
    clear hr
    go_wp2_with (go_at_call 50; refine (bad_so 1 _).mono ?_; rintro e w' ⟨rfl, rfl⟩)
    exact bodyPost_pan rfl (by rw [HR.out]; exact ⟨rfl, HWA.out.bel⟩)
  by_cases h2 : 2 < m.service
  · rw [if_pos (.inr h2)] at hr
    have d1 : decide (m.service < 0) = false := by simpa using h1
    have d2 : decide (2 < m.service) = true := by simpa using h2
    have HR := Lib.hid hr
    clear hr
    go_wp2_with (go_at_call 50; refine (bad_so 1 _).mono ?_; rintro e w' ⟨rfl, rfl⟩)
    exact bodyPost_pan rfl (by rw [HR.out]; exact ⟨rfl, HWA.out.bel⟩)
  rw [if_neg (by omega)] at hr
  have d1 : decide (m.service < 0) = false := by simpa using h1
  have d2 : decide (2 < m.service) = false := by simpa using h2
  by_cases h3 : 1024 < m.pay.size
  · rw [if_pos h3] at hr
    have d3 : decide (1024 < m.pay.size) = true := by simpa using h3
    have d3' : decide ((1024 : Int) < (m.pay.size : Int)) = true := by simp; omega
    have HR := Lib.hid hr
    clear hr
    go_upto_region 2 with (go_at_call 50; refine (bad_no 1 _).mono ?_; rintro e w' ⟨rfl, rfl⟩)
    go_wp2_with (go_at_call 50; refine (bad_so 3 _).mono ?_; rintro e w' ⟨rfl, rfl⟩)
    exact bodyPost_pan rfl (by rw [HR.out]; exact ⟨rfl, HWA.out.bel⟩)
  rw [if_neg h3] at hr
  have d3 : decide (1024 < m.pay.size) = false := by simpa using h3
  have d3' : decide ((1024 : Int) < (m.pay.size : Int)) = false := by simp; omega
  have h33 : m.pay.size ≤ 1024 := by omega
  obtain ⟨sv, hsv⟩ : ∃ sv : Nat, m.service = (sv : Int) := ⟨m.service.toNat, by omega⟩
  have hw1 : IntKind.u64.wrap (m.seq : Int) = (m.seq : Int) := by rw [IntKind.wrap_u64]; have := HM.out.2.1; omega
  have hw2 : IntKind.u64.wrap (sv : Int) = (sv : Int) := by rw [IntKind.wrap_u64]; omega
  have hw3 : IntKind.u64.wrap (m.pay.size : Int) = (m.pay.size : Int) := by rw [IntKind.wrap_u64]; omega
  have H1 := Lib.hid (wNum_any HWA.out m.seq 4 (by have := HL.out; omega) (by have := HM.out.2.1; omega) (by omega) (by omega))
  rw [hsv] at c3 d1 d2 h1 h2 hr
  rw [show (sv : Int).toNat = sv from rfl] at hr
  have HR := Lib.hid hr
  have HSV := Lib.hid hsv
  clear hr
  have hsv2 : sv ≤ 2 := by omega
  clear hsv h1 h2 h3
  go_upto_region 2 with (go_at_call 50; refine (bad_no 1 _).mono ?_; rintro e w' ⟨rfl, rfl⟩)
  go_upto_region 3 with (go_at_call 50; refine (bad_no 3 _).mono ?_; rintro e w' ⟨rfl, rfl⟩)
  clear d1 d2 d3 d3'
  go_wp2_with fail
  refine H1.out.mono ?_
  rintro e w1 ⟨rfl, h1, k1⟩
  clear c0 c1 c2 c3 c4 c5 H1
  obtain ⟨c0, c1, c2, c3, c4, c5⟩ := msg_cells (k1.keep HB.out.2.2 HB.out.1 (by decide))
  rw [HSV.out] at c3
  have H2 := Lib.hid (wNum_any h1 m.stamp 8 (by have := HL.out; simp only [List.length_append, putL_length]; omega) HM.out.2.2.1 (by omega) (by omega))
  have HK1 := Lib.hid k1
  clear h1 k1
  go_wp2_with fail
  refine H2.out.mono ?_
  rintro e w2 ⟨rfl, h2, k2⟩
  replace k2 := HK1.out.trans k2
  clear c0 c1 c2 c3 c4 c5 H2 HK1
  obtain ⟨c0, c1, c2, c3, c4, c5⟩ := msg_cells (k2.keep HB.out.2.2 HB.out.1 (by decide))
  rw [HSV.out] at c3
  have H3 := Lib.hid (wNum_any h2 sv 1 (by have := HL.out; simp only [List.length_append, putL_length]; omega) (by omega) (by omega) (by omega))
  have HK2 := Lib.hid k2
  clear h2 k2
  go_wp2_with fail
  refine H3.out.mono ?_
  rintro e w3 ⟨rfl, h3, k3⟩
  replace k3 := HK2.out.trans k3
  clear c0 c1 c2 c3 c4 c5 H3 HK2
  by_cases hv : 64 < m.ds.length
  · have hvr : vecL m.ds = .error 3 := if_pos hv
    obtain ⟨c0, c1, c2, c3, c4, c5⟩ := msg_cells (k3.keep HB.out.2.2 HB.out.1 (by decide))
    rw [HSV.out] at c3
    have H4 := Lib.hid (wVec_any h3 m.da m.dc m.ds (by have := HL.out; simp only [List.length_append, putL_length]; omega) HM.out.2.2.2)
    have HK3 := Lib.hid k3
    clear h3 k3
    go_wp2_with fail
    refine H4.out.mono ?_
    intro e w4 h4
    rw [hvr] at h4
    obtain ⟨rfl, hb4⟩ := h4
    clear H4
    exact bodyPost_pan rfl (by rw [HR.out, hvr]; exact ⟨rfl, hb4⟩)
  have hvr : vecL m.ds = .ok (putL m.ds.length 1 ++ vecB m.ds) := if_neg hv
  obtain ⟨c0, c1, c2, c3, c4, c5⟩ := msg_cells (k3.keep HB.out.2.2 HB.out.1 (by decide))
  rw [HSV.out] at c3
  have H4 := Lib.hid (wVec_any h3 m.da m.dc m.ds (by have := HL.out; simp only [List.length_append, putL_length]; omega) HM.out.2.2.2)
  have HK3 := Lib.hid k3
  clear h3 k3
  go_wp2_with fail
  refine H4.out.mono ?_
  intro e w4 h4
  rw [hvr] at h4
  obtain ⟨rfl, h4, k4⟩ := h4
  replace k4 := HK3.out.trans k4
  clear c0 c1 c2 c3 c4 c5 H4 HK3
  obtain ⟨c0, c1, c2, c3, c4, c5⟩ := msg_cells (k4.keep HB.out.2.2 HB.out.1 (by decide))
  rw [HSV.out] at c3
  have H5 := Lib.hid (wNum_any h4 m.pay.size 2 (by have := HL.out; simp only [List.length_append, putL_length, vecB_len]; omega) (by omega) (by omega) (by omega))
  have HK4 := Lib.hid k4
  clear h4 k4
  go_wp2_with fail
  refine H5.out.mono ?_
  rintro e w5 ⟨rfl, h5, k5⟩
  replace k5 := HK4.out.trans k5
  clear c0 c1 c2 c3 c4 c5 H5 HK4
  have HV := Lib.hid (And.intro hvr (show m.ds.length ≤ 64 by omega))
  clear hvr hv
  obtain ⟨c0, c1, c2, c3, c4, c5⟩ := msg_cells (k5.keep HB.out.2.2 HB.out.1 (by decide))
  obtain ⟨v5, hx5, ho5, hb5, hle5⟩ := h5
  obtain ⟨a5, q5, hv5⟩ := ownForm ho5
  subst hv5
  have e0 : w5.cell? ⟨w0.heap.size, 0, none⟩ = some (.slice a5 _ q5) := cell_of_row _ _ 0 _ _ _ hx5
  have H5 := Lib.hid (And.intro hx5 (And.intro ho5 (And.intro hb5 (And.intro hle5 k5))))
  clear hx5 ho5 hb5 hle5 k5
  go_upto_region 8 with (fail)
  obtain ⟨x5, hx5⟩ : ∃ x5, x5 = l ++ putL m.seq 4 ++ putL m.stamp 8 ++ putL sv 1 ++ (putL m.ds.length 1 ++ vecB m.ds) ++ putL m.pay.size 2 := ⟨_, rfl⟩
  rw [← hx5] at H5 e0
  have HX := Lib.hid hx5
  clear hx5
  refine wp_region_mask (fun w' => w'.cell? ⟨w0.heap.size, 0, none⟩ = some (.slice a5 x5.length q5) ∧ w'.cell? ⟨N, 5, none⟩ = some (.string m.pay)) 8 4 [true, true, true, true, true, true, true, false, false, false, false] #[true, true, true, true, true, true, true, false, false, false, false] (by kernel_rfl) (by kernel_rfl) (by kernel_rfl) ⟨e0, c5⟩ ?_
  have hb5d : Below w5.heap.size w5 w5.drew := (br w5).drew
  have ho5d := own_keptS H5.out.2.1 (Kept.of_below (S := fun _ => False) hb5d) (fun _ _ h => h)
  clear e0 c0 c1 c2 c3 c4 c5
  iterate 7
    refine wpMask_take _ (Or.inl ⟨by rfl, fun w' hS => by (try dsimp only at hS); go_simp; try with_reducible rfl⟩) ?_
    simp only [Act.put, List.setIfInBounds_toArray, List.set_cons_zero, List.set_cons_succ]
  refine wpMask_skip (wpMask_skip (wpMask_skip (wpMask_skip (wpMask_nil ?_))))
  refine wpAnyS_ready (rs := [7]) (by kernel_rfl) (by simp) ?_
  refine AllReadyS.cons rfl (fun K hK => ?_) AllReadyS.nil
  obtain ⟨i0, hi, hz0, hz1, hz2⟩ := info_parts info_u8
  generalize w5.drew = w6 at *
  refine step_append_string rfl (.tmp 46) (.tmp 48) 52 9 rfl (w0.heap.size + 1) 5 i0 Try.underlying52 Try.underlying9 hi hz0 hz1 hz2 _ x5.length (ints x5) rfl ho5d m.pay rfl ?_ ?_ ?_ ?_
  · have := HL.out; rw [HX.out]; simp only [List.length_append, putL_length, vecB_len]; unfold maxLen; have := HV.out.2; omega
  · have := HL.out; rw [HX.out]; simp only [List.length_append, putL_length, vecB_len]; have := HV.out.2; omega
  · have h1 := (Array.getElem?_eq_some_iff.1 H5.out.1).1; have h2 := hb5d.size; omega
  intro v7 w7 ho7 hg7
  have b6 := (hb5d.block _ (Array.getElem?_eq_some_iff.1 H5.out.1).1).trans H5.out.1
  have n6 := (hb5d.block _ (Array.getElem?_eq_some_iff.1 (H5.out.2.2.2.2.keep HB.out.2.2 HB.out.1 (by decide))).1).trans (H5.out.2.2.2.2.keep HB.out.2.2 HB.out.1 (by decide))
  have b7 := (hg7.block _ (Array.getElem?_eq_some_iff.1 b6).1 (fun e => own_blk_ne ho5d b6 (by decide) e.symm)).trans b6
  have n7 := (hg7.block _ (Array.getElem?_eq_some_iff.1 n6).1 (fun e => own_blk_ne ho5d n6 (by decide) e.symm)).trans n6
  have e7 : w7.cell? ⟨w0.heap.size, 0, none⟩ = some (.slice a5 x5.length q5) := cell_of_row _ _ 0 _ _ _ b7
  have f7 : w7.frozen? ⟨w0.heap.size, 0, none⟩ = false := frozen_of_row _ _ _ _ _ b7
  refine hK.out _ _ (fun _ => ⟨e7, (msg_cells n7).2.2.2.2.2⟩) ?_
  clear hK K
  simp only [Act.put, List.setIfInBounds_toArray, List.set_cons_zero, List.set_cons_succ]
  obtain ⟨a7, q7, hv7⟩ := ownForm ho7
  subst hv7
  have hk : Kept (fun b => b = w0.heap.size) w7 (w7.setCell ⟨w0.heap.size, 0, none⟩ (.slice a7 (x5.length + m.pay.size) q7)) := (show Kept (fun b => b = w0.heap.size) w7 w7 from .refl _ _).setCell (p := ⟨w0.heap.size, 0, none⟩) rfl _
  have hlt0 := (Array.getElem?_eq_some_iff.1 H5.out.1).1
  have hb07 : Below w0.heap.size w0 w7 := grownB (H5.out.2.2.1.trans (hb5d.mono (Nat.le_of_lt hlt0))) (Nat.le_of_lt (Nat.lt_of_lt_of_le hlt0 hb5d.size)) hg7 (fun b hb => by have := (ho5d.lt b hb).1; omega)
  have HE := Lib.hid (show WrEnd w0.heap.size w0 w l r (.returned (.tuple #[])) (w7.setCell ⟨w0.heap.size, 0, none⟩ (.slice a7 (x5.length + m.pay.size) q7)) from by
    have hfin : r = .ok (putL m.seq 4 ++ (putL m.stamp 8 ++ (putL sv 1 ++ ((putL m.ds.length 1 ++ vecB m.ds) ++ (putL m.pay.size 2 ++ m.pay.data.toList))))) := by rw [HR.out, HV.out.1]; rfl
    have hlist : l ++ (putL m.seq 4 ++ (putL m.stamp 8 ++ (putL sv 1 ++ ((putL m.ds.length 1 ++ vecB m.ds) ++ (putL m.pay.size 2 ++ m.pay.data.toList))))) = x5 ++ m.pay.data.toList := by rw [HX.out]; simp only [List.append_assoc]
    rw [hfin]
    refine ⟨rfl, ?_, ?_⟩
    · rw [hlist]
      refine ⟨_, setCell_block b7 0 _, ?_, hk.out hb07 (Nat.le_of_lt (Array.getElem?_eq_some_iff.1 b7).1) (fun k hk' e => by omega), Nat.le_refl _⟩
      have h1 := own_keptS ho7 hk (fun b hb e => by have := (ho7.lt b hb).1; omega)
      rw [strCells_ints, ← show ints (x5 ++ m.pay.data.toList) = ints x5 ++ ints m.pay.data.toList from by simp [ints]] at h1
      rw [List.length_append]
      exact h1
    · refine HB.out.2.1.trans (H5.out.2.2.2.2.trans ((KeptT.of_below hb5d).trans ⟨Nat.le_trans hg7.size hk.size, fun i hi hB ht => (hk.block i (Nat.lt_of_lt_of_le hi hg7.size) hB).trans (hg7.block i hi (fun e => ?_))⟩))
      rcases ho5d.2 with ⟨e0, _⟩ | ⟨g, cap, cur, e0, _, hh, _⟩
      · rw [e0] at e; cases e
      · rw [e0] at e
        injection e with e
        subst e
        exact ht _ _ hh)
  clear ho7 hg7 b6 n6 b7 n7 hk hb07 hb5d ho5d
  refine wpAnyS_ready (rs := [8]) (by kernel_rfl) (by simp) ?_
  refine AllReadyS.cons rfl (fun K hK => ?_) AllReadyS.nil
  go_simp
  refine hK.out _ _ (fun h => absurd h (by omega)) ?_
  clear hK K
  simp only [Act.put, List.setIfInBounds_toArray, List.set_cons_zero, List.set_cons_succ]
  refine wpAnyS_ready (rs := [9]) (by kernel_rfl) (by simp) ?_
  refine AllReadyS.cons rfl (fun K hK => ?_) AllReadyS.nil
  go_simp
  refine hK.out _ _ (fun h => absurd h (by omega)) ?_
  clear hK K
  simp only [Act.put, List.setIfInBounds_toArray, List.set_cons_zero, List.set_cons_succ]
  refine wpAnyS_ready (rs := [10]) (by kernel_rfl) (by simp) ?_
  refine AllReadyS.cons rfl (fun K hK => ?_) AllReadyS.nil
  go_simp
  refine hK.out _ _ (fun h => absurd h (by omega)) ?_
  clear hK K
  simp only [Act.put, List.setIfInBounds_toArray, List.set_cons_zero, List.set_cons_succ]
  refine wpAnyS_done (by kernel_rfl) ?_ _
  go_wp2_with fail
  go_end0
  exact HE.out
end Go.Proofs.Ytgpojbmloielmaa
