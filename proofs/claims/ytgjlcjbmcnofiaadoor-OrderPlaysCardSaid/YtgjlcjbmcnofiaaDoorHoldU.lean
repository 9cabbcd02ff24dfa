/-
  What the reference's Drop and Put return.
  Conditions: none.
-/
import Derived.Test.YtgjlcjbmcnofiaaDoorHoldT
namespace Go.Proofs.YtgjlcjbmcnofiaaDoor
set_option linter.unusedVariables false
set_option linter.unusedSimpArgs false
open Go.RowKit
def dropA (A : List Msg) (lo : Nat → Nat) (p : Int) (u : Nat) : Nat → Nat := if procB p = true ∧ lo p.toNat < min u (cntA A p) then upd lo p.toNat (min u (cntA A p)) else lo
def putA (A : List Msg) (m : Msg) : Int := if procB m.frm = false then 1 else if m.seq = cntA A m.frm + 1 then 0 else 13
theorem RefH.dropA {A : List Msg} {lo : Nat → Nat} {R : Nat → List Msg} (h : RefH A lo R) (p : Int) (u : Nat) : dropA A lo p u = dropLo lo R p u := by
  unfold Go.Proofs.YtgjlcjbmcnofiaaDoor.dropA dropLo dropC
  rw [h.cnt]
  unfold cntZ
  by_cases hp : procB p = true
  · rw [if_pos hp]
    by_cases hc : lo p.toNat < min u (lo p.toNat + (R p.toNat).length)
    · rw [if_pos ⟨hp, hc⟩, if_pos (by rw [hp, decide_eq_true hc]; rfl)]
    · rw [if_neg (fun h => hc h.2), if_neg (by simp [hp]; omega)]
  · rw [if_neg (fun h => hp h.1), if_neg (by simp [hp])]
theorem RefH.putA {A : List Msg} {lo : Nat → Nat} {R : Nat → List Msg} (h : RefH A lo R) (m : Msg) : putA A m = putK lo R m := by
  unfold Go.Proofs.YtgjlcjbmcnofiaaDoor.putA putK
  rw [h.cnt]
  unfold cntZ
  by_cases hp : procB m.frm = false
  · rw [if_pos hp, if_pos hp]
  · rw [if_neg hp, if_neg hp, if_pos (show procB m.frm = true by simpa using hp)]
/-- the cells of a hold that has nothing -/
def zeroX : Array Value := refX (.slice none 0 0) (fun _ => 0)
theorem zeroX_run : ∀ W : World, (zeroValue 67).run Tryd.prog W = .ok (.agg zeroX) W := fun W => by kernel_rfl
theorem sizeX {v : Value} {lo : Nat → Nat} : (Tryd.prog.info? 67).map (·.size) = some (refX v lo).size := by rw [refX_size]; kernel_rfl
set_option maxRecDepth 100000 in
set_option maxHeartbeats 8000000 in
theorem rDrop_any (v : Value) (lo : Nat → Nat) (A : List Msg) (p : Int) (u : Nat) (w : World) (h : RowsIn w v A) (hl : A.length ≤ 1000) :
    Calls Tryd.prog 86 #[.agg (refX v lo), .int .i64 p, .int .u32 (u : Int)] w fun e w' => e = .returned (.agg (refX v (dropA A lo p u))) ∧ Below w.heap.size w w' := by
  have hv : v.oneCell' = true := by obtain ⟨ad, cap, rfl, _⟩ := h; rfl
  have HCo := Lib.hid (fun (W : World) (hW : Below w.heap.size w W) => rCount_any v lo A p W (h.below hW) hl)
  have hN : cntA A p ≤ 1000 := by have := ofP_len A p; unfold cntA; omega
  have hz := zeroX_run
  have hZ : zeroX.size = 65 := by unfold zeroX; rw [refX_size]
  obtain ⟨Z, hZe⟩ : ∃ Z, Z = zeroX := ⟨_, rfl⟩
  rw [← hZe] at hz hZ
  obtain ⟨X, hX⟩ : ∃ X, X = refX v lo := ⟨_, rfl⟩
  have hX1 : X.all (·.oneCell') = true := by rw [hX]; exact refX_one v lo hv
  have hXs : X.size = 65 := by rw [hX, refX_size]
  have hsz : (Tryd.prog.info? 67).map (·.size) = some X.size := by rw [hXs]; kernel_rfl
  have hx := heap_alloc2_old w (.cells X 67) (.cells Z 67)
  have hy := heap_alloc2_new w (.cells X 67) (.cells Z 67)
  have hb := ba (ba (br w) (.cells X 67)) (.cells Z 67)
  have HD := Lib.hid (show dropA A lo p u = dropA A lo p u from rfl)
  obtain ⟨W, hW⟩ : ∃ W, W = (w.alloc (.cells X 67)).alloc (.cells Z 67) := ⟨_, rfl⟩
  rw [← hW] at hx hy hb
  rw [← hX] at HCo ⊢
  have HS := Lib.hid hsz
  have HB := Lib.hid (And.intro hb (And.intro hx (And.intro hy (And.intro (show Z.size = X.size by rw [hZ, hXs]) hX1))))
  by_cases hp : procB p = true
  · obtain ⟨h1, h2⟩ := procB_iff.1 hp
    obtain ⟨q, rfl⟩ := Int.eq_ofNat_of_zero_le h1
    have hq : q < 64 := by omega
    have d1 : decide ((q : Int) < 0) = false := by simp
    have d2 : decide ((63 : Int) < (q : Int)) = false := by simp; omega
    have d2' : decide (63 < q) = false := by simp; omega
    have hq64 : (q : Int) < 64 := by omega
    obtain ⟨n, hn⟩ : ∃ n, n = cntA A (q : Int) := ⟨_, rfl⟩
    have HLo := Lib.hid (show X[1 + q]? = some (.int .u32 (lo q : Int)) by rw [hX]; exact refX_lo v lo hq)
    have HSet := Lib.hid (show ∀ k : Nat, X.setIfInBounds (1 + q) (.int .u32 (k : Int)) = refX v (upd lo q k) from fun k => by rw [hX]; exact refX_setlo v lo hq k)
    have HXX := Lib.hid hX
    have HVV := Lib.hid hv
    have hD1 : dropA A lo (q : Int) u = if lo q < min u n then upd lo q (min u n) else lo := by
      unfold dropA
      rw [Int.toNat_natCast, ← hn]
      by_cases hc : lo q < min u n
      · rw [if_pos ⟨hp, hc⟩, if_pos hc]
      · rw [if_neg (fun h => hc h.2), if_neg hc]
    have HDD := Lib.hid hD1
    rw [← hn] at HCo hN
    obtain ⟨k, hk⟩ : ∃ k, k = min u n := ⟨_, rfl⟩
    have hkk : (n < u ∧ k = n) ∨ (u ≤ n ∧ k = u) := by omega
    rw [← hk] at HDD
    have hk1 : k ≤ 1000 := by omega
    clear h hX hsz hx hy hb hX1 hXs hZ hZe hp h1 h2 hn hk hD1 HD hv
    go_enter Tryd.func86, Tryd.ntmps86
    go_upto_region 1 with (fail)
    rw [← hW]
    clear hW
    go_wp2_with (with_reducible refine wpList_load_row rfl 67 (.tmp 3) rfl w.heap.size rfl 67 X (0, 0) _ HB.out.2.1 Tryd.underlying67 rfl HS.out ?_)
    refine (HCo.out _ HB.out.1).mono ?_
    rintro e w1 ⟨rfl, hb1⟩
    have e1 := (hb1.block _ (Array.getElem?_eq_some_iff.1 HB.out.2.1).1).trans HB.out.2.1
    have e2 := (hb1.block _ (Array.getElem?_eq_some_iff.1 HB.out.2.2.1).1).trans HB.out.2.2.1
    have c1 : w1.cell? ⟨w.heap.size, 1 + q, none⟩ = some (.int .u32 (lo q : Int)) := (cell_of_row _ _ (1 + q) _ _ _ e1).trans HLo.out
    have f1 : w1.frozen? ⟨w.heap.size, 1 + q, none⟩ = false := frozen_of_row _ _ _ _ _ e1
    obtain ⟨l0, hl0⟩ : ∃ l, l = lo q := ⟨_, rfl⟩
    rw [← hl0] at c1
    have H1 := Lib.hid (And.intro e1 (And.intro e2 (And.intro (bt HB.out.1 hb1) hl0)))
    clear e1 e2 hb1 hl0
    have hfin : ∀ (W2 : World) (L : Nat → Nat), W2.heap[w.heap.size]? = some (.cells (refX v L) 67 (0, 0)) → W2.heap[w.heap.size + 1]? = some (.cells Z 67 (0, 0)) → Below w.heap.size w W2 → (W2.setRow (w.heap.size + 1) (refX v L)).heap[w.heap.size + 1]? = some (.cells (refX v L) 67 (0, 0)) ∧ Below w.heap.size w (W2.setRow (w.heap.size + 1) (refX v L)) := fun W2 L g1 g2 g3 =>
      ⟨setRow_heap _ _ _ _ _ _ g2, bsr' g3 (by omega) _⟩
    have HFIN := Lib.hid hfin
    clear hfin
    rcases hkk with ⟨hu, rfl⟩ | ⟨hu, rfl⟩
    · have d3 : decide ((k : Int) < (u : Int)) = true := by simpa using hu
      have d3' : decide (k < u) = true := by simpa using hu
      by_cases hlo : l0 < k
      · have d4 : decide ((l0 : Int) < (k : Int)) = true := by simpa using hlo
        have d4' : decide (l0 < k) = true := by simpa using hlo
        have HK := Lib.hid (show dropA A lo (q : Int) u = upd lo q k by rw [HDD.out, if_pos (by rw [← H1.out.2.2.2]; exact hlo)])
        clear hlo
        go_upto_region 8 with (fail)
        have e3 := setCell_block H1.out.1 (1 + q) (.int .u32 (k : Int))
        rw [HSet.out] at e3
        have e4 : (w1.setCell ⟨w.heap.size, 1 + q, none⟩ (.int .u32 (k : Int))).heap[w.heap.size + 1]? = some (.cells Z 67 (0, 0)) := (Below.heap_setCell _ _ _ _ (by simp)).trans H1.out.2.1
        have hb2 := bs H1.out.2.2.1 (p := ⟨w.heap.size, 1 + q, none⟩) (Nat.le_refl _) (.int .u32 (k : Int))
        clear c1 f1
        generalize w1.setCell ⟨w.heap.size, 1 + q, none⟩ (.int .u32 (k : Int)) = W2 at *
        have HE := Lib.hid (And.intro (HFIN.out W2 _ e3 e4 hb2) (And.intro e3 e4))
        clear e3 e4 hb2
        go_wp2_with (first
          | (with_reducible refine wpList_load_row rfl 67 (.tmp 3) rfl w.heap.size rfl 67 (refX v (upd lo q k)) (0, 0) _ HE.out.2.1 Tryd.underlying67 rfl sizeX ?_)
          | (with_reducible refine wpList_store_row rfl 67 (.tmp 6) (.tmp 32) rfl (w.heap.size + 1) (refX v (upd lo q k)) rfl rfl 67 _ HE.out.2.2 sizeX (by rw [HB.out.2.2.2.1, HXX.out, refX_size, refX_size]) (refX_one _ _ HVV.out) ?_)
          | fail)
        refine bodyPost_ret (results_cell_row Tryd.results86 _ _ (w.heap.size + 1) 67 (refX v (upd lo q k)) (0, 0) _ rfl HE.out.1.1 Tryd.underlying67 rfl sizeX) rfl ⟨by rw [HK.out], HE.out.1.2⟩
      · have d4 : decide ((l0 : Int) < (k : Int)) = false := by simpa using hlo
        have d4' : decide (l0 < k) = false := by simpa using hlo
        have HK := Lib.hid (show dropA A lo (q : Int) u = lo by rw [HDD.out, if_neg (by rw [← H1.out.2.2.2]; exact hlo)])
        have HE := Lib.hid (HFIN.out w1 lo (by rw [← HXX.out]; exact H1.out.1) H1.out.2.1 H1.out.2.2.1)
        clear hlo
        go_wp2_with (first
          | (with_reducible refine wpList_load_row rfl 67 (.tmp 3) rfl w.heap.size rfl 67 X (0, 0) _ H1.out.1 Tryd.underlying67 rfl HS.out ?_)
          | (with_reducible refine wpList_store_row rfl 67 (.tmp 6) (.tmp 32) rfl (w.heap.size + 1) X rfl rfl 67 _ H1.out.2.1 HS.out HB.out.2.2.2.1 HB.out.2.2.2.2 ?_)
          | fail)
        rw [HXX.out]
        refine bodyPost_ret (results_cell_row Tryd.results86 _ _ (w.heap.size + 1) 67 (refX v lo) (0, 0) _ rfl HE.out.1 Tryd.underlying67 rfl sizeX) rfl ⟨by rw [HK.out], HE.out.2⟩
    · have d3 : decide ((n : Int) < (k : Int)) = false := by simp; omega
      have d3' : decide (n < k) = false := by simp; omega
      by_cases hlo : l0 < k
      · have d4 : decide ((l0 : Int) < (k : Int)) = true := by simpa using hlo
        have d4' : decide (l0 < k) = true := by simpa using hlo
        have HK := Lib.hid (show dropA A lo (q : Int) k = upd lo q k by rw [HDD.out, if_pos (by rw [← H1.out.2.2.2]; exact hlo)])
        clear hlo
        go_upto_region 8 with (fail)
        have e3 := setCell_block H1.out.1 (1 + q) (.int .u32 (k : Int))
        rw [HSet.out] at e3
        have e4 : (w1.setCell ⟨w.heap.size, 1 + q, none⟩ (.int .u32 (k : Int))).heap[w.heap.size + 1]? = some (.cells Z 67 (0, 0)) := (Below.heap_setCell _ _ _ _ (by simp)).trans H1.out.2.1
        have hb2 := bs H1.out.2.2.1 (p := ⟨w.heap.size, 1 + q, none⟩) (Nat.le_refl _) (.int .u32 (k : Int))
        clear c1 f1
        generalize w1.setCell ⟨w.heap.size, 1 + q, none⟩ (.int .u32 (k : Int)) = W2 at *
        have HE := Lib.hid (And.intro (HFIN.out W2 _ e3 e4 hb2) (And.intro e3 e4))
        clear e3 e4 hb2
        go_wp2_with (first
          | (with_reducible refine wpList_load_row rfl 67 (.tmp 3) rfl w.heap.size rfl 67 (refX v (upd lo q k)) (0, 0) _ HE.out.2.1 Tryd.underlying67 rfl sizeX ?_)
          | (with_reducible refine wpList_store_row rfl 67 (.tmp 6) (.tmp 32) rfl (w.heap.size + 1) (refX v (upd lo q k)) rfl rfl 67 _ HE.out.2.2 sizeX (by rw [HB.out.2.2.2.1, HXX.out, refX_size, refX_size]) (refX_one _ _ HVV.out) ?_)
          | fail)
        refine bodyPost_ret (results_cell_row Tryd.results86 _ _ (w.heap.size + 1) 67 (refX v (upd lo q k)) (0, 0) _ rfl HE.out.1.1 Tryd.underlying67 rfl sizeX) rfl ⟨by rw [HK.out], HE.out.1.2⟩
      · have d4 : decide ((l0 : Int) < (k : Int)) = false := by simpa using hlo
        have d4' : decide (l0 < k) = false := by simpa using hlo
        have HK := Lib.hid (show dropA A lo (q : Int) k = lo by rw [HDD.out, if_neg (by rw [← H1.out.2.2.2]; exact hlo)])
        have HE := Lib.hid (HFIN.out w1 lo (by rw [← HXX.out]; exact H1.out.1) H1.out.2.1 H1.out.2.2.1)
        clear hlo
        go_wp2_with (first
          | (with_reducible refine wpList_load_row rfl 67 (.tmp 3) rfl w.heap.size rfl 67 X (0, 0) _ H1.out.1 Tryd.underlying67 rfl HS.out ?_)
          | (with_reducible refine wpList_store_row rfl 67 (.tmp 6) (.tmp 32) rfl (w.heap.size + 1) X rfl rfl 67 _ H1.out.2.1 HS.out HB.out.2.2.2.1 HB.out.2.2.2.2 ?_)
          | fail)
        rw [HXX.out]
        refine bodyPost_ret (results_cell_row Tryd.results86 _ _ (w.heap.size + 1) 67 (refX v lo) (0, 0) _ rfl HE.out.1 Tryd.underlying67 rfl sizeX) rfl ⟨by rw [HK.out], HE.out.2⟩
  · have HK := Lib.hid (show dropA A lo p u = lo by unfold dropA; rw [if_neg (fun h => hp h.1)])
    have HXX := Lib.hid hX
    have HE := Lib.hid (show (W.setRow (w.heap.size + 1) X).heap[w.heap.size + 1]? = some (.cells X 67 (0, 0)) ∧ Below w.heap.size w (W.setRow (w.heap.size + 1) X) from ⟨setRow_heap _ _ _ _ _ _ hy, bsr' hb (by omega) _⟩)
    by_cases h1 : p < 0
    · have d1 : decide (p < 0) = true := by simpa using h1
      clear h hX hsz hx hy hb hX1 hXs hZ hZe hp h1 HD hv
      go_enter Tryd.func86, Tryd.ntmps86
      go_upto_region 1 with (fail)
      rw [← hW]
      clear hW
      go_wp2_with (first
        | (with_reducible refine wpList_load_row rfl 67 (.tmp 3) rfl w.heap.size rfl 67 X (0, 0) _ HB.out.2.1 Tryd.underlying67 rfl HS.out ?_)
        | (with_reducible refine wpList_store_row rfl 67 (.tmp 6) (.tmp 14) rfl (w.heap.size + 1) X rfl rfl 67 _ HB.out.2.2.1 HS.out HB.out.2.2.2.1 HB.out.2.2.2.2 ?_)
        | fail)
      refine bodyPost_ret (results_cell_row Tryd.results86 _ _ (w.heap.size + 1) 67 X (0, 0) _ rfl HE.out.1 Tryd.underlying67 rfl HS.out) rfl ⟨by rw [HK.out, HXX.out], HE.out.2⟩
    · have d1 : decide (p < 0) = false := by simpa using h1
      have d2 : decide (63 < p) = true := by
        have h64 : ¬ (0 ≤ p ∧ p < 64) := fun h => hp (procB_iff.2 h)
        simp; omega
      clear h hX hsz hx hy hb hX1 hXs hZ hZe hp h1 HD hv
      go_enter Tryd.func86, Tryd.ntmps86
      go_upto_region 1 with (fail)
      rw [← hW]
      clear hW
      go_wp2_with (first
        | (with_reducible refine wpList_load_row rfl 67 (.tmp 3) rfl w.heap.size rfl 67 X (0, 0) _ HB.out.2.1 Tryd.underlying67 rfl HS.out ?_)
        | (with_reducible refine wpList_store_row rfl 67 (.tmp 6) (.tmp 14) rfl (w.heap.size + 1) X rfl rfl 67 _ HB.out.2.2.1 HS.out HB.out.2.2.2.1 HB.out.2.2.2.2 ?_)
        | fail)
      refine bodyPost_ret (results_cell_row Tryd.results86 _ _ (w.heap.size + 1) 67 X (0, 0) _ rfl HE.out.1 Tryd.underlying67 rfl HS.out) rfl ⟨by rw [HK.out, HXX.out], HE.out.2⟩
/-- the reference's answer to Put -/
def RPutEnd (w : World) (v : Value) (lo : Nat → Nat) (A : List Msg) (m : Msg) (e : Ending) (w' : World) : Prop := ∃ u, e = .returned (.tuple #[.agg (refX u lo), .int .i64 (putA A m)]) ∧ RowsIn w' u (if putA A m = 0 then A ++ [m] else A) ∧ ((putA A m ≠ 0 ∧ u = v) ∨ ∀ p n c, u = .slice (some p) n c → w.heap.size ≤ p.block)
set_option maxRecDepth 100000 in
set_option maxHeartbeats 16000000 in
theorem rPut_any (v : Value) (lo : Nat → Nat) (A : List Msg) (m : Msg) (w : World) (h : RowsIn w v A) (hl : A.length ≤ 500) (hq : m.seq < 4294967296) :
    Calls Tryd.prog 82 #[.agg (refX v lo), .agg (msgA m)] w fun e w' => RPutEnd w v lo A m e w' ∧ Below w.heap.size w w' := by
  obtain ⟨i0, hi, hz0, hz1, hz2⟩ := info_parts info42
  obtain ⟨ad, cap, rfl, hrd⟩ := id h
  have HCo := Lib.hid (fun (W : World) (hW : Below w.heap.size w W) => rCount_any (.slice ad A.length cap) lo A m.frm W (h.below hW) (by omega))
  have hN : cntA A m.frm ≤ 1000 := by have := ofP_len A m.frm; unfold cntA; omega
  have hz := zeroX_run
  have hZ : zeroX.size = 65 := by unfold zeroX; rw [refX_size]
  obtain ⟨Z, hZe⟩ : ∃ Z, Z = zeroX := ⟨_, rfl⟩
  rw [← hZe] at hz hZ
  obtain ⟨Y, hY⟩ : ∃ Y, Y = refX (.slice ad A.length cap) lo := ⟨_, rfl⟩
  have hY1 : Y.all (·.oneCell') = true := by rw [hY]; exact refX_one _ lo rfl
  have hYs : Y.size = 65 := by rw [hY, refX_size]
  have hsz : (Tryd.prog.info? 67).map (·.size) = some Y.size := by rw [hYs]; kernel_rfl
  have hset : ∀ u, Y.setIfInBounds 0 u = refX u lo := fun u => by rw [hY]; exact refX_setv _ u lo
  have hY0 : Y[0]? = some (.slice ad A.length cap) := by rw [hY]; exact refX_v _ lo
  obtain ⟨X, hX⟩ : ∃ X, X = msgA m := ⟨_, rfl⟩
  have hxl : X.toList.length = 6 := by rw [hX]; rfl
  have hXs : i0.size = X.size := hz1.trans (by simpa using hxl.symm)
  have hx1 : ∀ u ∈ X.toList, u.oneCell' = true := by rw [hX]; exact msgA_one m
  have hrows : rowsM (A ++ [m]) = rowsM A ++ X.toList := by rw [hX]; exact rowsM_snoc A m
  have x0 : X[0]? = some (.int .i64 m.frm) := by rw [hX]; rfl
  have x1 : X[1]? = some (.int .u32 (m.seq : Int)) := by rw [hX]; rfl
  obtain ⟨W, hW⟩ : ∃ W, W = ((w.alloc (.cells Y 67)).alloc (.cells X 42)).alloc (.cells Z 67) := ⟨_, rfl⟩
  have hb : Below w.heap.size w W := by rw [hW]; exact ba (ba (ba (br w) _) _) _
  have hA3 : W.heap[w.heap.size]? = some (.cells Y 67 (0, 0)) ∧ W.heap[w.heap.size + 1]? = some (.cells X 42 (0, 0)) ∧ W.heap[w.heap.size + 1 + 1]? = some (.cells Z 67 (0, 0)) := by
    rw [hW]
    have h0 := heap_alloc2_old w (.cells Y 67) (.cells X 42)
    have h1 := heap_alloc2_new w (.cells Y 67) (.cells X 42)
    have h2 := heap_alloc_new ((w.alloc (.cells Y 67)).alloc (.cells X 42)) (.cells Z 67)
    refine ⟨(Below.heap_alloc _ _ _ (Array.getElem?_eq_some_iff.1 h0).1).trans h0, (Below.heap_alloc _ _ _ (Array.getElem?_eq_some_iff.1 h1).1).trans h1, ?_⟩
    simpa using h2
  have g0 : W.cell? ⟨w.heap.size + 1, 0, none⟩ = some (.int .i64 m.frm) := (cell_of_row _ _ 0 _ _ _ hA3.2.1).trans x0
  have g1 : W.cell? ⟨w.heap.size + 1, 1, none⟩ = some (.int .u32 (m.seq : Int)) := (cell_of_row _ _ 1 _ _ _ hA3.2.1).trans x1
  have HS := Lib.hid hsz
  have HB := Lib.hid (And.intro hb (And.intro hA3.1 (And.intro hA3.2.1 (And.intro hA3.2.2 (And.intro (show Z.size = Y.size by rw [hZ, hYs]) hY1)))))
  have HYY := Lib.hid hY
  have HAA := Lib.hid (And.intro h (And.intro hset (And.intro hrows (And.intro hY0 hZ))))
  have HRD := Lib.hid hrd
  have HE0 := Lib.hid (show ∀ W2 : World, Below W.heap.size W W2 → W2.heap[w.heap.size]? = some (.cells Y 67 (0, 0)) ∧ W2.heap[w.heap.size + 1 + 1]? = some (.cells Z 67 (0, 0)) ∧ (W2.setRow (w.heap.size + 1 + 1) Y).heap[w.heap.size + 1 + 1]? = some (.cells Y 67 (0, 0)) ∧ RowsIn (W2.setRow (w.heap.size + 1 + 1) Y) (.slice ad A.length cap) A ∧ Below w.heap.size w (W2.setRow (w.heap.size + 1 + 1) Y) from fun W2 hW2 => by
    have k1 := (hW2.block _ (Array.getElem?_eq_some_iff.1 hA3.1).1).trans hA3.1
    have k2 := (hW2.block _ (Array.getElem?_eq_some_iff.1 hA3.2.2).1).trans hA3.2.2
    have k3 := bsr' (bt hb hW2) (g := w.heap.size + 1 + 1) (by omega) Y
    exact ⟨k1, k2, setRow_heap _ _ _ _ _ _ k2, h.below k3, k3⟩)
  rw [← hY] at HCo ⊢
  rw [← hX]
  by_cases hp : procB m.frm = true
  · obtain ⟨h1, h2⟩ := procB_iff.1 hp
    have d1 : decide (m.frm < 0) = false := by simp; omega
    have d2 : decide ((63 : Int) < m.frm) = false := by simp; omega
    have hput : putA A m = if m.seq = cntA A m.frm + 1 then 0 else 13 := by unfold putA; rw [if_neg (by rw [hp]; decide)]
    obtain ⟨n, hn⟩ : ∃ n, n = cntA A m.frm := ⟨_, rfl⟩
    rw [← hn] at HCo hN hput
    have HPU := Lib.hid hput
    have w1 : IntKind.u64.wrap (m.seq : Int) = (m.seq : Int) := by rw [IntKind.wrap_u64]; omega
    have w2 : IntKind.u64.wrap (n : Int) = (n : Int) := by rw [IntKind.wrap_u64]; omega
    have w3 : IntKind.u64.wrap ((n : Int) + 1) = (n : Int) + 1 := by rw [IntKind.wrap_u64]; omega
    obtain ⟨B, hB⟩ : ∃ B, B = ((m.seq : Int) != (n : Int) + 1) := ⟨_, rfl⟩
    have hB2 : B = !decide (m.seq = n + 1) := by
      rw [hB, Bool.eq_iff_iff]
      simp
      omega
    have HBB := Lib.hid hB2
    have d3 := hB.symm
    have HZ1 := Lib.hid hxl
    clear h hX hY hsz hb hA3 hY1 hYs hZ hZe hp h1 h2 hn hput hB hB2 hset hrows hY0 x0 x1 hrd
    go_enter Tryd.func82, Tryd.ntmps82
    go_upto_region 1 with (fail)
    rw [← hW]
    clear hW
    go_upto_region 3 with (fail)
    go_cut [24] (fun q wx => q = .bool B ∧ Below W.heap.size W wx)
    case first =>
      have b0 := Bel.cell g0 (Array.getElem?_eq_some_iff.1 HB.out.2.2.1).1
      have b1 := Bel.cell g1 (Array.getElem?_eq_some_iff.1 HB.out.2.2.1).1
      have RY := Lib.hid (Bel.range (w := W) (b := w.heap.size) (o := 0) (cs := Y.toList) (fun j u hu => (cell_of_row _ _ _ _ _ _ HB.out.2.1).trans (by simpa using hu)) (Array.getElem?_eq_some_iff.1 HB.out.2.1).1)
      have hYl : (Tryd.prog.info? 67).map (·.size) = some Y.toList.length := by rw [HS.out]; simp
      have HYL := Lib.hid hYl
      clear hYl
      refine wp_region_bel (by kernel_rfl) (by kernel_rfl) ?_
      repeat (first
        | (refine wpQuiet_load_want (by rfl) 67 (.tmp 2) rfl w.heap.size 0 rfl Y.toList _ RY.out Tryd.underlying67 rfl HYL.out ?_; go_simp)
        | go_big_quiet_step ((go_at_call 95; exact bel_call (HCo.out _ (bt HB.out.1 (Bel.prop _))))))
      refine wpQuiet_nil ?_
      intro x5
      have hb5 := x5.prop
      generalize x5.val = w5 at *
      go_wp2
      go_meet
      exact ⟨rfl, hb5⟩
    case rest =>
    obtain ⟨rfl, hbc⟩ := hcut
    have HC := Lib.hid (HE0.out wc hbc)
    cases B
    case true =>
      have HK := Lib.hid (show putA A m = 13 by
        rw [HPU.out, if_neg]
        have := HBB.out
        simpa using this)
      clear g0 g1 hbc
      go_wp2_with (first
        | (with_reducible refine wpList_load_row rfl 67 (.tmp 2) rfl w.heap.size rfl 67 Y (0, 0) _ HC.out.1 Tryd.underlying67 rfl HS.out ?_)
        | (with_reducible refine wpList_store_row rfl 67 (.tmp 4) (.tmp 25) rfl (w.heap.size + 1 + 1) Y rfl rfl 67 _ HC.out.2.1 HS.out HB.out.2.2.2.2.1 HB.out.2.2.2.2.2 ?_)
        | fail)
      refine bodyPost_ret (results_cell_tmp Tryd.results82 _ _ (w.heap.size + 1 + 1) 67 Y (0, 0) _ _ rfl rfl HC.out.2.2.1 Tryd.underlying67 rfl HS.out) rfl ⟨⟨.slice ad A.length cap, by rw [HK.out, HYY.out]; rfl, by rw [HK.out, if_neg (by decide)]; exact HC.out.2.2.2.1, .inl ⟨by rw [HK.out]; decide, rfl⟩⟩, HC.out.2.2.2.2⟩
    case false =>
      have HK := Lib.hid (show putA A m = 0 by
        rw [HPU.out, if_pos]
        have := HBB.out
        simpa using this)
      go_upto_region 5 with (fail)
      go_cut [] (fun wx => ∃ v8, wx.heap[w.heap.size]? = some (.cells (refX v8 lo) 67 (0, 0)) ∧ wx.heap[w.heap.size + 1 + 1]? = some (.cells Z 67 (0, 0)) ∧ wx.ownsRow w.heap.size 42 6 v8 (A.length + 1) (rowsM A ++ X.toList) ∧ Below w.heap.size w wx)
      case first =>
        have hS : ∀ w', Below wc.heap.size wc w' → w'.cell? ⟨w.heap.size, 0, none⟩ = some (.slice ad A.length cap) ∧ w'.rangeAt (w.heap.size + 1) 0 X.toList := by
          intro w' hb
          have hbb := bt hbc hb
          have e0 := (hbb.block _ (Array.getElem?_eq_some_iff.1 HB.out.2.1).1).trans HB.out.2.1
          have e1 := (hbb.block _ (Array.getElem?_eq_some_iff.1 HB.out.2.2.1).1).trans HB.out.2.2.1
          exact ⟨(cell_of_row _ _ 0 _ _ _ e0).trans HAA.out.2.2.2.1, fun j u hu => (cell_of_row _ _ _ _ _ _ e1).trans (by simpa using hu)⟩
        refine wp_region_mask (fun w' => w'.cell? ⟨w.heap.size, 0, none⟩ = some (.slice ad A.length cap) ∧ w'.rangeAt (w.heap.size + 1) 0 X.toList) 8 6 [false, true, true, false, true, false, false, false, false] #[false, true, true, false, true, false, false, false, false] (by kernel_rfl) (by kernel_rfl) (by kernel_rfl) (hS _ (br wc).drew) ?_
        have GG2 : wc.drew.heap[w.heap.size]? = some (.cells Y 67 (0, 0)) ∧ wc.drew.heap[w.heap.size + 1 + 1]? = some (.cells Z 67 (0, 0)) ∧ Below w.heap.size w wc.drew := ⟨HC.out.1, HC.out.2.1, (bt HB.out.1 hbc).drew⟩
        have HS2 := Lib.hid (show ∀ w', Below wc.drew.heap.size wc.drew w' → _ from fun w' hb => hS w' ⟨hb.os, hb.tape, hb.output, hb.size, hb.block⟩)
        clear hS g0 g1 hbc HC
        generalize wc.drew = W5 at *
        have GG := Lib.hid GG2
        clear GG2
        have hb5 := br W5
        have HEND := Lib.hid (show ∀ (v8 : Value) (w8 : World), w8.ownsRow W5.heap.size 42 6 v8 (A.length + 1) (rowsM A ++ X.toList) → Below W5.heap.size W5 w8 → (w8.setCell ⟨w.heap.size, 0, none⟩ v8).heap[w.heap.size]? = some (.cells (refX v8 lo) 67 (0, 0)) ∧ (w8.setCell ⟨w.heap.size, 0, none⟩ v8).heap[w.heap.size + 1 + 1]? = some (.cells Z 67 (0, 0)) ∧ (w8.setCell ⟨w.heap.size, 0, none⟩ v8).ownsRow w.heap.size 42 6 v8 (A.length + 1) (rowsM A ++ X.toList) ∧ Below w.heap.size w (w8.setCell ⟨w.heap.size, 0, none⟩ v8) ∧ w8.frozen? ⟨w.heap.size, 0, none⟩ = false from fun v8 w8 ho hb => by
          have e0 := (hb.block _ (Array.getElem?_eq_some_iff.1 GG.out.1).1).trans GG.out.1
          have e2 := (hb.block _ (Array.getElem?_eq_some_iff.1 GG.out.2.1).1).trans GG.out.2.1
          have e3 := setCell_block e0 0 v8
          rw [HAA.out.2.1] at e3
          refine ⟨e3, (Below.heap_setCell _ _ _ _ (by simp; omega)).trans e2, ?_, bs (bt GG.out.2.2 hb) (Nat.le_refl _) _, frozen_of_row _ _ _ _ _ e0⟩
          have hk : Kept (fun b => b = w.heap.size) w8 (w8.setCell ⟨w.heap.size, 0, none⟩ v8) := (show Kept (fun b => b = w.heap.size) w8 w8 from .refl _ _).setCell (p := ⟨w.heap.size, 0, none⟩) rfl _
          have hsz := (Array.getElem?_eq_some_iff.1 GG.out.1).1
          exact ownMore (own_keptS ho hk (fun b hb hc => by have := (ho.lt b hb).1; omega)) (by omega))
        refine wpMask_skip ?_
        iterate 2
          refine wpMask_take _ (Or.inl ⟨by rfl, fun w' hS => by (try dsimp only at hS); go_simp; try with_reducible rfl⟩) ?_
          simp only [Act.put, List.setIfInBounds_toArray, List.set_cons_zero, List.set_cons_succ]
        refine wpMask_skip ?_
        refine wpMask_take _ (yieldsIf_load_mid (by rfl) 42 (.tmp 3) rfl (w.heap.size + 1) 0 rfl X.toList _ (fun w' hS => hS.2) Tryd.underlying42 rfl (by rw [HZ1.out]; kernel_rfl)) ?_
        simp only [Act.put, List.setIfInBounds_toArray, List.set_cons_zero, List.set_cons_succ]
        refine wpMask_skip (wpMask_skip (wpMask_skip (wpMask_skip (wpMask_nil ?_))))
        refine wpAnyS_ready (rs := [0, 5]) (by kernel_rfl) (by simp) ?_
        refine AllReadyS.cons rfl (fun K hK => ?_) ?_
        · -- the empty slice first
          go_simp
          refine hK.out _ _ (fun _ => HS2.out _ (ba hb5 _)) ?_
          clear hK K
          simp only [Act.put, List.setIfInBounds_toArray, List.set_cons_zero, List.set_cons_succ]
          have own1 := ownNil W5 W5.heap.size 42 6 hb5.size
          have hb1 := ba hb5 (.cells #[] 42)
          refine wpAnyS_ready (rs := [3, 5]) (by kernel_rfl) (by simp) ?_
          refine AllReadyS.cons rfl (fun K hK => ?_) ?_
          · -- the first append next
            refine step_append_any _ rfl (.tmp 26) (.tmp 28) 27 rfl W5.heap.size 42 i0 _ 6 72 Tryd.underlying27 hi hz0 hz1 hz2 rfl (by decide) _ 0 [] rfl own1 w.heap.size ad A.length cap ((rowsM A)) rfl (HRD.out.below (bt GG.out.2.2 hb1)) (rowsM_one A) (by unfold maxLen; omega) (by omega) hb1.size ?_
            intro v6 w6 ho6 hg6 hu6
            have hb6 := grownB hb1 hb1.size hg6 (fun b hb => (own1.lt b hb).1)
            refine hK.out _ _ (fun _ => HS2.out _ hb6) ?_
            clear hK K
            simp only [Act.put, List.setIfInBounds_toArray, List.set_cons_zero, List.set_cons_succ]
            refine wpAnyS_ready (rs := [5]) (by kernel_rfl) (by simp) ?_
            refine AllReadyS.cons rfl (fun K hK => ?_) ?_
            · -- the second slice
              refine step_buildSlice_row rfl 27 (.tmp 30) rfl 42 i0 _ Tryd.underlying27 hi hz0 X rfl hXs (by omega) (by omega) ?_
              refine hK.out _ _ (fun _ => HS2.out _ (ba hb6 _)) ?_
              clear hK K
              simp only [Act.put, List.setIfInBounds_toArray, List.set_cons_zero, List.set_cons_succ]
              have ownX := ownOne w6 W5.heap.size 42 X 6 (by simpa using hxl) hb6.size
              have hb7 := ba hb6 (.cells X 42)
              refine wpAnyS_ready (rs := [6]) (by kernel_rfl) (by simp) ?_
              refine AllReadyS.cons rfl (fun K hK => ?_) ?_
              · -- the second append
                refine step_append_any _ rfl (.tmp 29) (.tmp 31) 27 rfl W5.heap.size 42 i0 _ 6 72 Tryd.underlying27 hi hz0 hz1 hz2 rfl (by decide) _ (0 + A.length) ([] ++ (rowsM A)) rfl (ho6.alloc _) _ _ 1 1 X.toList rfl (Reads.of_own ownX) hx1 (by unfold maxLen; omega) (by omega) hb7.size ?_
                intro v8 w8 ho8 hg8 hu8
                have hb8 := grownB hb7 hb7.size hg8 (fun b hb => (ho6.lt b hb).1)
                refine hK.out _ _ (fun _ => HS2.out _ hb8) ?_
                clear hK K
                simp only [Act.put, List.setIfInBounds_toArray, List.set_cons_zero, List.set_cons_succ]
                rw [List.nil_append, Nat.zero_add] at ho8
                obtain ⟨ad8, cap8, rfl⟩ := ownForm ho8
                have HE8 := Lib.hid (HEND.out _ w8 ho8 hb8)
                have c8 := (HS2.out _ hb8).1
                have f8 := HE8.out.2.2.2.2
                clear ho8 hu8 hg8
                refine wpAnyS_ready (rs := [7]) (by kernel_rfl) (by simp) ?_
                refine AllReadyS.cons rfl (fun K hK => ?_) ?_
                · go_simp
                  refine hK.out _ _ (fun _ => HS2.out _ hb8) ?_
                  clear hK K
                  simp only [Act.put, List.setIfInBounds_toArray, List.set_cons_zero, List.set_cons_succ]
                  refine wpAnyS_ready (rs := [8]) (by kernel_rfl) (by simp) ?_
                  refine AllReadyS.cons rfl (fun K hK => ?_) ?_
                  · go_simp
                    refine hK.out _ _ (fun h => absurd h (by omega)) ?_
                    clear hK K
                    simp only [Act.put, List.setIfInBounds_toArray, List.set_cons_zero, List.set_cons_succ]
                    refine wpAnyS_done (by kernel_rfl) ?_ _
                    clear hb8
                    have HE9 := Lib.hid HE8.out.1
                    go_wp2_with fail
                    go_meet
                    exact ⟨_, HE9.out, HE8.out.2.1, HE8.out.2.2.1, HE8.out.2.2.2.1⟩
                  · exact AllReadyS.nil
                · exact AllReadyS.nil
              · exact AllReadyS.nil
            · exact AllReadyS.nil
          refine AllReadyS.cons rfl (fun K hK => ?_) ?_
          · -- the second slice next
            refine step_buildSlice_row rfl 27 (.tmp 30) rfl 42 i0 _ Tryd.underlying27 hi hz0 X rfl hXs (by omega) (by omega) ?_
            refine hK.out _ _ (fun _ => HS2.out _ (ba hb1 _)) ?_
            clear hK K
            simp only [Act.put, List.setIfInBounds_toArray, List.set_cons_zero, List.set_cons_succ]
            have ownX := ownOne _ W5.heap.size 42 X 6 (by simpa using hxl) hb1.size
            have hb7 := ba hb1 (.cells X 42)
            refine wpAnyS_ready (rs := [3]) (by kernel_rfl) (by simp) ?_
            refine AllReadyS.cons rfl (fun K hK => ?_) ?_
            · -- the first append
              refine step_append_any _ rfl (.tmp 26) (.tmp 28) 27 rfl W5.heap.size 42 i0 _ 6 72 Tryd.underlying27 hi hz0 hz1 hz2 rfl (by decide) _ 0 [] rfl (own1.alloc _) w.heap.size ad A.length cap ((rowsM A)) rfl (HRD.out.below (bt GG.out.2.2 hb7)) (rowsM_one A) (by unfold maxLen; omega) (by omega) hb7.size ?_
              intro v6 w6 ho6 hg6 hu6
              have hb6 := grownB hb7 hb7.size hg6 (fun b hb => (own1.lt b hb).1)
              refine hK.out _ _ (fun _ => HS2.out _ hb6) ?_
              clear hK K
              simp only [Act.put, List.setIfInBounds_toArray, List.set_cons_zero, List.set_cons_succ]
              have ownX6 := ownX.kept hg6 (.inr (fun e => by
                  have e2 := Option.some.inj (show some (W5.alloc (.cells #[] 42)).heap.size = some W5.heap.size from e)
                  simp at e2))
              refine wpAnyS_ready (rs := [6]) (by kernel_rfl) (by simp) ?_
              refine AllReadyS.cons rfl (fun K hK => ?_) ?_
              · -- the second append
                refine step_append_any _ rfl (.tmp 29) (.tmp 31) 27 rfl W5.heap.size 42 i0 _ 6 72 Tryd.underlying27 hi hz0 hz1 hz2 rfl (by decide) _ (0 + A.length) ([] ++ (rowsM A)) rfl ho6 _ _ 1 1 X.toList rfl (Reads.of_own ownX6) hx1 (by unfold maxLen; omega) (by omega) hb6.size ?_
                intro v8 w8 ho8 hg8 hu8
                have hb8 := grownB hb6 hb6.size hg8 (fun b hb => (ho6.lt b hb).1)
                refine hK.out _ _ (fun _ => HS2.out _ hb8) ?_
                clear hK K
                simp only [Act.put, List.setIfInBounds_toArray, List.set_cons_zero, List.set_cons_succ]
                rw [List.nil_append, Nat.zero_add] at ho8
                obtain ⟨ad8, cap8, rfl⟩ := ownForm ho8
                have HE8 := Lib.hid (HEND.out _ w8 ho8 hb8)
                have c8 := (HS2.out _ hb8).1
                have f8 := HE8.out.2.2.2.2
                clear ho8 hu8 hg8
                refine wpAnyS_ready (rs := [7]) (by kernel_rfl) (by simp) ?_
                refine AllReadyS.cons rfl (fun K hK => ?_) ?_
                · go_simp
                  refine hK.out _ _ (fun _ => HS2.out _ hb8) ?_
                  clear hK K
                  simp only [Act.put, List.setIfInBounds_toArray, List.set_cons_zero, List.set_cons_succ]
                  refine wpAnyS_ready (rs := [8]) (by kernel_rfl) (by simp) ?_
                  refine AllReadyS.cons rfl (fun K hK => ?_) ?_
                  · go_simp
                    refine hK.out _ _ (fun h => absurd h (by omega)) ?_
                    clear hK K
                    simp only [Act.put, List.setIfInBounds_toArray, List.set_cons_zero, List.set_cons_succ]
                    refine wpAnyS_done (by kernel_rfl) ?_ _
                    clear hb8
                    have HE9 := Lib.hid HE8.out.1
                    go_wp2_with fail
                    go_meet
                    exact ⟨_, HE9.out, HE8.out.2.1, HE8.out.2.2.1, HE8.out.2.2.2.1⟩
                  · exact AllReadyS.nil
                · exact AllReadyS.nil
              · exact AllReadyS.nil
            · exact AllReadyS.nil
          exact AllReadyS.nil
        refine AllReadyS.cons rfl (fun K hK => ?_) ?_
        · -- the second slice first
          refine step_buildSlice_row rfl 27 (.tmp 30) rfl 42 i0 _ Tryd.underlying27 hi hz0 X rfl hXs (by omega) (by omega) ?_
          refine hK.out _ _ (fun _ => HS2.out _ (ba hb5 _)) ?_
          clear hK K
          simp only [Act.put, List.setIfInBounds_toArray, List.set_cons_zero, List.set_cons_succ]
          have ownX := ownOne W5 W5.heap.size 42 X 6 (by simpa using hxl) hb5.size
          have hb1 := ba hb5 (.cells X 42)
          refine wpAnyS_ready (rs := [0]) (by kernel_rfl) (by simp) ?_
          refine AllReadyS.cons rfl (fun K hK => ?_) ?_
          · -- the empty slice
            go_simp
            refine hK.out _ _ (fun _ => HS2.out _ (ba hb1 _)) ?_
            clear hK K
            simp only [Act.put, List.setIfInBounds_toArray, List.set_cons_zero, List.set_cons_succ]
            have own1 := ownNil _ W5.heap.size 42 6 hb1.size
            rw [show (W5.alloc (.cells X 42)).heap.size = W5.heap.size + 1 by simp] at own1
            have hb7 := ba hb1 (.cells #[] 42)
            refine wpAnyS_ready (rs := [3]) (by kernel_rfl) (by simp) ?_
            refine AllReadyS.cons rfl (fun K hK => ?_) ?_
            · -- the first append
              refine step_append_any _ rfl (.tmp 26) (.tmp 28) 27 rfl W5.heap.size 42 i0 _ 6 72 Tryd.underlying27 hi hz0 hz1 hz2 rfl (by decide) _ 0 [] rfl own1 w.heap.size ad A.length cap ((rowsM A)) rfl (HRD.out.below (bt GG.out.2.2 hb7)) (rowsM_one A) (by unfold maxLen; omega) (by omega) hb7.size ?_
              intro v6 w6 ho6 hg6 hu6
              have hb6 := grownB hb7 hb7.size hg6 (fun b hb => (own1.lt b hb).1)
              refine hK.out _ _ (fun _ => HS2.out _ hb6) ?_
              clear hK K
              simp only [Act.put, List.setIfInBounds_toArray, List.set_cons_zero, List.set_cons_succ]
              have ownX6 := (ownX.alloc _).kept hg6 (.inr (fun e => absurd (Option.some.inj (show some W5.heap.size = some (W5.heap.size + 1) from e)) (by omega)))
              refine wpAnyS_ready (rs := [6]) (by kernel_rfl) (by simp) ?_
              refine AllReadyS.cons rfl (fun K hK => ?_) ?_
              · -- the second append
                refine step_append_any _ rfl (.tmp 29) (.tmp 31) 27 rfl W5.heap.size 42 i0 _ 6 72 Tryd.underlying27 hi hz0 hz1 hz2 rfl (by decide) _ (0 + A.length) ([] ++ (rowsM A)) rfl ho6 _ _ 1 1 X.toList rfl (Reads.of_own ownX6) hx1 (by unfold maxLen; omega) (by omega) hb6.size ?_
                intro v8 w8 ho8 hg8 hu8
                have hb8 := grownB hb6 hb6.size hg8 (fun b hb => (ho6.lt b hb).1)
                refine hK.out _ _ (fun _ => HS2.out _ hb8) ?_
                clear hK K
                simp only [Act.put, List.setIfInBounds_toArray, List.set_cons_zero, List.set_cons_succ]
                rw [List.nil_append, Nat.zero_add] at ho8
                obtain ⟨ad8, cap8, rfl⟩ := ownForm ho8
                have HE8 := Lib.hid (HEND.out _ w8 ho8 hb8)
                have c8 := (HS2.out _ hb8).1
                have f8 := HE8.out.2.2.2.2
                clear ho8 hu8 hg8
                refine wpAnyS_ready (rs := [7]) (by kernel_rfl) (by simp) ?_
                refine AllReadyS.cons rfl (fun K hK => ?_) ?_
                · go_simp
                  refine hK.out _ _ (fun _ => HS2.out _ hb8) ?_
                  clear hK K
                  simp only [Act.put, List.setIfInBounds_toArray, List.set_cons_zero, List.set_cons_succ]
                  refine wpAnyS_ready (rs := [8]) (by kernel_rfl) (by simp) ?_
                  refine AllReadyS.cons rfl (fun K hK => ?_) ?_
                  · go_simp
                    refine hK.out _ _ (fun h => absurd h (by omega)) ?_
                    clear hK K
                    simp only [Act.put, List.setIfInBounds_toArray, List.set_cons_zero, List.set_cons_succ]
                    refine wpAnyS_done (by kernel_rfl) ?_ _
                    clear hb8
                    have HE9 := Lib.hid HE8.out.1
                    go_wp2_with fail
                    go_meet
                    exact ⟨_, HE9.out, HE8.out.2.1, HE8.out.2.2.1, HE8.out.2.2.2.1⟩
                  · exact AllReadyS.nil
                · exact AllReadyS.nil
              · exact AllReadyS.nil
            · exact AllReadyS.nil
          · exact AllReadyS.nil
        exact AllReadyS.nil
      case rest =>
        obtain ⟨v8, q0, q1, q2, q3⟩ := hcut
        have HQ := Lib.hid (And.intro q0 (And.intro q1 (And.intro q2 q3)))
        have hv8 : v8.oneCell' = true := by obtain ⟨a8, c8, rfl⟩ := ownForm q2; rfl
        have HV8 := Lib.hid hv8
        have hZ8 := HAA.out.2.2.2.2
        have HZ8 := Lib.hid (show Z.size = (refX v8 lo).size by rw [refX_size]; exact hZ8)
        clear q0 q1 q2 q3 hbc hv8 hZ8 g0 g1
        go_wp2_with (first
          | (with_reducible refine wpList_load_row rfl 67 (.tmp 2) rfl w.heap.size rfl 67 (refX v8 lo) (0, 0) _ HQ.out.1 Tryd.underlying67 rfl sizeX ?_)
          | (with_reducible refine wpList_store_row rfl 67 (.tmp 4) (.tmp 34) rfl (w.heap.size + 1 + 1) (refX v8 lo) rfl rfl 67 _ HQ.out.2.1 sizeX HZ8.out (refX_one _ _ HV8.out) ?_)
          | fail)
        have hbE := bsr' HQ.out.2.2.2 (g := w.heap.size + 1 + 1) (by omega) (refX v8 lo)
        refine bodyPost_ret (results_cell_tmp Tryd.results82 _ _ (w.heap.size + 1 + 1) 67 (refX v8 lo) (0, 0) _ _ rfl rfl (setRow_heap _ _ _ _ _ _ HQ.out.2.1) Tryd.underlying67 rfl sizeX) rfl ⟨⟨v8, by rw [HK.out]; rfl, ?_, .inr (fun p n c e => (ownFar HQ.out.2.2.1 p n c e).1)⟩, hbE⟩
        rw [HK.out, if_pos rfl]
        have ho := HQ.out.2.2.1
        rw [← HAA.out.2.2.1, show A.length + 1 = (A ++ [m]).length by simp] at ho
        have hkr : Kept (fun b => b = w.heap.size + 1 + 1) wc (wc.setRow (w.heap.size + 1 + 1) (refX v8 lo)) := ⟨rfl, rfl, rfl, by rw [size_setRow]; exact Nat.le_refl _, fun i _ hs => setRow_other _ _ _ _ hs⟩
        refine (RowsAt.of_own (own_keptS ho hkr (fun b hb hc => ?_))).rowsIn
        exact own_blk_ne ho HQ.out.2.1 (by decide) (hc ▸ hb)
  · have HK := Lib.hid (show putA A m = 1 by unfold putA; rw [if_pos (by simpa using hp)])
    have HC := Lib.hid (HE0.out W (br W))
    by_cases h1 : m.frm < 0
    · have d1 : decide (m.frm < 0) = true := by simpa using h1
      clear h hX hY hsz hb hA3 hY1 hYs hZ hZe hp h1 hset hrows hY0 x0 x1 hrd
      go_enter Tryd.func82, Tryd.ntmps82
      go_upto_region 1 with (fail)
      rw [← hW]
      clear hW
      go_wp2_with (first
        | (with_reducible refine wpList_load_row rfl 67 (.tmp 2) rfl w.heap.size rfl 67 Y (0, 0) _ HC.out.1 Tryd.underlying67 rfl HS.out ?_)
        | (with_reducible refine wpList_store_row rfl 67 (.tmp 4) (.tmp 14) rfl (w.heap.size + 1 + 1) Y rfl rfl 67 _ HC.out.2.1 HS.out HB.out.2.2.2.2.1 HB.out.2.2.2.2.2 ?_)
        | fail)
      refine bodyPost_ret (results_cell_tmp Tryd.results82 _ _ (w.heap.size + 1 + 1) 67 Y (0, 0) _ _ rfl rfl HC.out.2.2.1 Tryd.underlying67 rfl HS.out) rfl ⟨⟨.slice ad A.length cap, by rw [HK.out, HYY.out]; rfl, by rw [HK.out, if_neg (by decide)]; exact HC.out.2.2.2.1, .inl ⟨by rw [HK.out]; decide, rfl⟩⟩, HC.out.2.2.2.2⟩
    · have d1 : decide (m.frm < 0) = false := by simpa using h1
      have h64 : ¬ (0 ≤ m.frm ∧ m.frm < 64) := fun h => hp (procB_iff.2 h)
      have d2 : decide ((63 : Int) < m.frm) = true := by simp; omega
      clear h64
      clear h hX hY hsz hb hA3 hY1 hYs hZ hZe hp h1 hset hrows hY0 x0 x1 hrd
      go_enter Tryd.func82, Tryd.ntmps82
      go_upto_region 1 with (fail)
      rw [← hW]
      clear hW
      go_wp2_with (first
        | (with_reducible refine wpList_load_row rfl 67 (.tmp 2) rfl w.heap.size rfl 67 Y (0, 0) _ HC.out.1 Tryd.underlying67 rfl HS.out ?_)
        | (with_reducible refine wpList_store_row rfl 67 (.tmp 4) (.tmp 14) rfl (w.heap.size + 1 + 1) Y rfl rfl 67 _ HC.out.2.1 HS.out HB.out.2.2.2.2.1 HB.out.2.2.2.2.2 ?_)
        | fail)
      refine bodyPost_ret (results_cell_tmp Tryd.results82 _ _ (w.heap.size + 1 + 1) 67 Y (0, 0) _ _ rfl rfl HC.out.2.2.1 Tryd.underlying67 rfl HS.out) rfl ⟨⟨.slice ad A.length cap, by rw [HK.out, HYY.out]; rfl, by rw [HK.out, if_neg (by decide)]; exact HC.out.2.2.2.1, .inl ⟨by rw [HK.out]; decide, rfl⟩⟩, HC.out.2.2.2.2⟩
end Go.Proofs.YtgjlcjbmcnofiaaDoor
