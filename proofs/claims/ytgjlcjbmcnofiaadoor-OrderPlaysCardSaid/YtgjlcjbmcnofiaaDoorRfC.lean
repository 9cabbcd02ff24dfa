/-
  The reference's Tell.
  Conditions: those that each theorem names.
-/
import Derived.Test.YtgjlcjbmcnofiaaDoorPlA
namespace Go.Proofs.YtgjlcjbmcnofiaaDoor
set_option linter.unusedVariables false
set_option linter.unusedSimpArgs false
open Go.RowKit
theorem hrC_one (c : Nat) (oth : Nat → Bool) (v : Value) (hv : v.oneCell' = true) : (hrC c oth v).all (·.oneCell') = true := by
  unfold hrC
  refine all_oneCell_toArray (fun u hu => ?_)
  obtain ⟨i, _, rfl⟩ := List.mem_map.1 hu
  unfold hrF
  split
  · rfl
  · split
    · rfl
    · exact hv
theorem hrC_setv (c : Nat) (oth : Nat → Bool) (v u : Value) : (hrC c oth v).setIfInBounds 65 u = hrC c oth u := by
  apply Array.ext_getElem?
  intro i
  rw [Array.getElem?_setIfInBounds, hrC_size]
  by_cases hi : i < 66
  · rw [hrC_get _ _ _ hi, hrC_get _ _ _ hi]
    by_cases e : 65 = i
    · subst e; simp [hrF]
    · rw [if_neg e]; unfold hrF
      by_cases h0 : i = 0
      · rw [if_pos h0, if_pos h0]
      · rw [if_neg h0, if_neg h0, if_pos (by omega), if_pos (by omega)]
  · rw [if_neg (by omega)]
    rw [Array.getElem?_eq_none (by rw [hrC_size]; omega), Array.getElem?_eq_none (by rw [hrC_size]; omega)]
theorem hrC_setc (c x : Nat) (oth : Nat → Bool) (v : Value) : (hrC c oth v).setIfInBounds 0 (.int .u64 (x : Int)) = hrC x oth v := by
  apply Array.ext_getElem?
  intro i
  rw [Array.getElem?_setIfInBounds, hrC_size]
  by_cases hi : i < 66
  · rw [hrC_get _ _ _ hi, hrC_get _ _ _ hi]
    by_cases e : 0 = i
    · subst e; simp [hrF]
    · rw [if_neg e]; unfold hrF; rw [if_neg (show ¬ i = 0 by omega), if_neg (show ¬ i = 0 by omega)]
  · rw [if_neg (by omega)]
    rw [Array.getElem?_eq_none (by rw [hrC_size]; omega), Array.getElem?_eq_none (by rw [hrC_size]; omega)]
theorem told_own {w : World} {base : Nat} {v : Value} {T : List Tld} (h : w.ownsRow base 120 4 v T.length (enL tldA T)) : ToldIn w v T := by
  obtain ⟨ad, cap, rfl⟩ := ownForm h
  exact ⟨ad, cap, rfl, Reads.of_own h⟩
def zeroH : Array Value := hrC 0 (fun _ => false) (.slice none 0 0)
theorem zeroH_run : ∀ W : World, (zeroValue 71).run Tryd.prog W = .ok (.agg zeroH) W := fun W => by kernel_rfl
theorem info120 : (Tryd.prog.info? 120).map (fun i => (i.zero, i.size, i.bytes)) = some (some (.agg (tldA ⟨0, 0, 0, 0⟩)), 4, 32) := by kernel_rfl
/-- is what is told heard of? -/
def tellB (oth : Nat → Bool) (t : Tld) : Prop := 0 ≤ t.p ∧ t.p < 64 ∧ oth t.p.toNat = true
def tellC (c : Nat) (t : Tld) : Nat := if t.kind < 2 ∧ c < t.stamp then t.stamp else c
def TellEnd (w : World) (v : Value) (c : Nat) (oth : Nat → Bool) (T : List Tld) (t : Tld) (e : Ending) (w' : World) : Prop :=
  (¬ tellB oth t ∧ e = .returned (.agg (hrC c oth v)) ∧ ToldIn w' v T) ∨ (tellB oth t ∧ ∃ u, e = .returned (.agg (hrC (tellC c t) oth u)) ∧ ToldIn w' u (T ++ [t]) ∧ ∀ p n cp, u = .slice (some p) n cp → w.heap.size ≤ p.block)
set_option maxRecDepth 100000 in
set_option maxHeartbeats 16000000 in
theorem rTell_any (v : Value) (c : Nat) (oth : Nat → Bool) (T : List Tld) (t : Tld) (w : World) (h : ToldIn w v T) (hl : T.length ≤ 500) :
    Calls Tryd.prog 57 #[.agg (hrC c oth v), .agg (tldA t)] w fun e w' => TellEnd w v c oth T t e w' ∧ Below w.heap.size w w' := by
  obtain ⟨i0, hi, hz0, hz1, hz2⟩ := info_parts info120
  obtain ⟨ad, cap, rfl, hrd⟩ := id h
  have hz := zeroH_run
  have hZ : zeroH.size = 66 := by unfold zeroH; rw [hrC_size]
  obtain ⟨Z, hZe⟩ : ∃ Z, Z = zeroH := ⟨_, rfl⟩
  rw [← hZe] at hz hZ
  obtain ⟨Y, hY⟩ : ∃ Y, Y = hrC c oth (.slice ad T.length cap) := ⟨_, rfl⟩
  have hY1 : Y.all (·.oneCell') = true := by rw [hY]; exact hrC_one _ _ _ rfl
  have hYs : Y.size = 66 := by rw [hY, hrC_size]
  have hsz : (Tryd.prog.info? 71).map (·.size) = some Y.size := by rw [hYs]; kernel_rfl
  have hY0 : Y[0]? = some (.int .u64 (c : Int)) := by rw [hY]; rfl
  have hYo : ∀ p, p < 64 → Y[1 + p]? = some (.bool (oth p)) := fun p hp => by rw [hY]; exact hrC_oth c oth _ hp
  obtain ⟨X, hX⟩ : ∃ X, X = tldA t := ⟨_, rfl⟩
  have hxl : X.toList.length = 4 := by rw [hX]; rfl
  have hXs : i0.size = X.size := hz1.trans (by simpa using hxl.symm)
  have hx1 : ∀ u ∈ X.toList, u.oneCell' = true := by rw [hX]; exact tldA_one t
  have hrows : enL tldA (T ++ [t]) = enL tldA T ++ X.toList := by rw [hX, enL_append]; simp [enL]
  have x0 : X[0]? = some (.int .i64 t.kind) := by rw [hX]; rfl
  have x1 : X[1]? = some (.int .i64 t.p) := by rw [hX]; rfl
  have x3 : X[3]? = some (.int .u64 (t.stamp : Int)) := by rw [hX]; rfl
  obtain ⟨W, hW⟩ : ∃ W, W = ((w.alloc (.cells Y 71)).alloc (.cells X 120)).alloc (.cells Z 71) := ⟨_, rfl⟩
  have hb : Below w.heap.size w W := by rw [hW]; exact ba (ba (ba (br w) _) _) _
  have hA3 : W.heap[w.heap.size]? = some (.cells Y 71 (0, 0)) ∧ W.heap[w.heap.size + 1]? = some (.cells X 120 (0, 0)) ∧ W.heap[w.heap.size + 1 + 1]? = some (.cells Z 71 (0, 0)) := by
    rw [hW]
    have h0 := heap_alloc2_old w (.cells Y 71) (.cells X 120)
    have h1 := heap_alloc2_new w (.cells Y 71) (.cells X 120)
    have h2 := heap_alloc_new ((w.alloc (.cells Y 71)).alloc (.cells X 120)) (.cells Z 71)
    refine ⟨(Below.heap_alloc _ _ _ (Array.getElem?_eq_some_iff.1 h0).1).trans h0, (Below.heap_alloc _ _ _ (Array.getElem?_eq_some_iff.1 h1).1).trans h1, ?_⟩
    simpa using h2
  have g0 : W.cell? ⟨w.heap.size + 1, 0, none⟩ = some (.int .i64 t.kind) := (cell_of_row _ _ 0 _ _ _ hA3.2.1).trans x0
  have g1 : W.cell? ⟨w.heap.size + 1, 1, none⟩ = some (.int .i64 t.p) := (cell_of_row _ _ 1 _ _ _ hA3.2.1).trans x1
  have g3 : W.cell? ⟨w.heap.size + 1, 3, none⟩ = some (.int .u64 (t.stamp : Int)) := (cell_of_row _ _ 3 _ _ _ hA3.2.1).trans x3
  have HS := Lib.hid hsz
  have HB := Lib.hid (And.intro hb (And.intro hA3.1 (And.intro hA3.2.1 (And.intro hA3.2.2 (And.intro (show Z.size = Y.size by rw [hZ, hYs]) hY1)))))
  have HYY := Lib.hid hY
  have HZS := Lib.hid hZ
  have HRD := Lib.hid hrd
  have HH := Lib.hid h
  have HRW := Lib.hid hrows
  have HNO := Lib.hid (show ¬ tellB oth t → ∀ f6 : (W.setRow (w.heap.size + 1 + 1) Y).heap[w.heap.size + 1 + 1]? = some (.cells Y 71 (0, 0)), TellEnd w (.slice ad T.length cap) c oth T t (.returned (.agg Y)) (W.setRow (w.heap.size + 1 + 1) Y) ∧ Below w.heap.size w (W.setRow (w.heap.size + 1 + 1) Y) from fun hn _ => by
    have k3 := bsr' hb (g := w.heap.size + 1 + 1) (by omega) Y
    exact ⟨.inl ⟨hn, by rw [hY], h.below k3⟩, k3⟩)
  have HNB := Lib.hid (show (W.setRow (w.heap.size + 1 + 1) Y).heap[w.heap.size + 1 + 1]? = some (.cells Y 71 (0, 0)) from setRow_heap _ _ _ _ _ _ hA3.2.2)
  rw [← hY, ← hX]
  have HYO := Lib.hid hYo
  have HY0 := Lib.hid hY0
  have HZ1 := Lib.hid hxl
  clear h hX hY hsz hb hA3 hY1 hYs hZ hZe hrows x0 x1 x3 hrd hYo
  go_enter Tryd.func57, Tryd.ntmps57
  go_upto_region 1 with (fail)
  rw [← hW]
  clear hW
  by_cases hp0 : t.p < 0
  · have d0 : decide (t.p < 0) = true := by simpa using hp0
    have HN := Lib.hid (show ¬ tellB oth t from fun h => by have := h.1; omega)
    clear hp0
    go_wp2_with (first
      | (with_reducible refine wpList_load_row rfl 71 (.tmp 2) rfl w.heap.size rfl 71 Y (0, 0) _ HB.out.2.1 Tryd.underlying71 rfl HS.out ?_)
      | (with_reducible refine wpList_store_row rfl 71 (.tmp 4) (.tmp 21) rfl (w.heap.size + 1 + 1) Y rfl rfl 71 _ HB.out.2.2.2.1 HS.out HB.out.2.2.2.2.1 HB.out.2.2.2.2.2 ?_)
      | fail)
    exact bodyPost_ret (results_cell_row Tryd.results57 _ _ (w.heap.size + 1 + 1) 71 Y (0, 0) _ rfl HNB.out Tryd.underlying71 rfl HS.out) rfl (HNO.out HN.out HNB.out)
  have d0 : decide (t.p < 0) = false := by simpa using hp0
  by_cases hp1 : 63 < t.p
  · have d1 : decide (63 < t.p) = true := by simpa using hp1
    have HN := Lib.hid (show ¬ tellB oth t from fun h => by have := h.2.1; omega)
    clear hp0 hp1
    go_wp2_with (first
      | (with_reducible refine wpList_load_row rfl 71 (.tmp 2) rfl w.heap.size rfl 71 Y (0, 0) _ HB.out.2.1 Tryd.underlying71 rfl HS.out ?_)
      | (with_reducible refine wpList_store_row rfl 71 (.tmp 4) (.tmp 21) rfl (w.heap.size + 1 + 1) Y rfl rfl 71 _ HB.out.2.2.2.1 HS.out HB.out.2.2.2.2.1 HB.out.2.2.2.2.2 ?_)
      | fail)
    exact bodyPost_ret (results_cell_row Tryd.results57 _ _ (w.heap.size + 1 + 1) 71 Y (0, 0) _ rfl HNB.out Tryd.underlying71 rfl HS.out) rfl (HNO.out HN.out HNB.out)
  have d1 : decide (63 < t.p) = false := by simpa using hp1
  obtain ⟨q, hq⟩ := Int.eq_ofNat_of_zero_le (show 0 ≤ t.p by omega)
  have hq64 : q < 64 := by omega
  have go_ : W.cell? ⟨w.heap.size, 1 + q, none⟩ = some (.bool (oth q)) := (cell_of_row _ _ (1 + q) _ _ _ HB.out.2.1).trans (HYO.out q hq64)
  have HTB := Lib.hid (show tellB oth t ↔ oth q = true from ⟨fun h => by have := h.2.2; rw [hq] at this; exact this, fun h => ⟨by omega, by omega, by rw [hq]; exact h⟩⟩)
  have HQQ := Lib.hid hq
  have hqi : (q : Int) < 64 := by omega
  rw [hq] at g1 d0 d1
  clear hp0 hp1 hq hq64
  obtain ⟨ob, hob⟩ : ∃ b, b = oth q := ⟨_, rfl⟩
  rw [← hob] at go_ HTB
  clear hob
  cases ob
  · have HN := Lib.hid (show ¬ tellB oth t from fun h => by have := HTB.out.1 h; cases this)
    go_wp2_with (first
      | (with_reducible refine wpList_load_row rfl 71 (.tmp 2) rfl w.heap.size rfl 71 Y (0, 0) _ HB.out.2.1 Tryd.underlying71 rfl HS.out ?_)
      | (with_reducible refine wpList_store_row rfl 71 (.tmp 4) (.tmp 21) rfl (w.heap.size + 1 + 1) Y rfl rfl 71 _ HB.out.2.2.2.1 HS.out HB.out.2.2.2.2.1 HB.out.2.2.2.2.2 ?_)
      | fail)
    exact bodyPost_ret (results_cell_row Tryd.results57 _ _ (w.heap.size + 1 + 1) 71 Y (0, 0) _ rfl HNB.out Tryd.underlying71 rfl HS.out) rfl (HNO.out HN.out HNB.out)
  have HT := Lib.hid (HTB.out.2 rfl)
  have g00 : W.cell? ⟨w.heap.size, 0, none⟩ = some (.int .u64 (c : Int)) := (cell_of_row _ _ 0 _ _ _ HB.out.2.1).trans HY0.out
  have f00 := frozen_of_row _ _ 0 _ _ HB.out.2.1
  obtain ⟨c1, hc1⟩ : ∃ c1, c1 = tellC c t := ⟨_, rfl⟩
  have HC1 := Lib.hid hc1
  have HTC := Lib.hid (show c1 = if t.kind < 2 ∧ c < t.stamp then t.stamp else c from hc1)
  clear hc1 HNO HNB HTB
  obtain ⟨kd, hkd⟩ : ∃ z, z = t.kind := ⟨_, rfl⟩
  obtain ⟨ts, hts⟩ : ∃ z, z = t.stamp := ⟨_, rfl⟩
  rw [← hkd, ← hts] at HTC
  rw [← hkd] at g0
  rw [← hts] at g3
  clear hkd hts
  obtain ⟨BB, hBB⟩ : ∃ b : Bool, b = decide (kd < 2 ∧ c < ts) := ⟨_, rfl⟩
  have HBB := Lib.hid hBB
  clear hBB
  go_upto_region 3 with (fail)
  go_cut [31] (fun s31 wx => s31 = .bool BB ∧ wx = W)
  case first =>
    by_cases hk2 : kd < 2
    · have d3 : decide (kd < 2) = true := by simpa using hk2
      by_cases hc : c < ts
      · have d4 : decide ((c : Int) < (ts : Int)) = true := by simp; omega
        have d4' : decide (c < ts) = true := by simpa using hc
        have e1 : BB = true := by rw [HBB.out]; simp [hk2, hc]
        have HE1 := Lib.hid e1
        clear e1 hk2 hc
        go_wp2_with fail
        go_meet
        exact ⟨by rw [HE1.out], rfl⟩
      · have d4 : decide ((c : Int) < (ts : Int)) = false := by simp; omega
        have d4' : decide (c < ts) = false := by simpa using hc
        have e1 : BB = false := by rw [HBB.out]; simp [hk2, hc]
        have HE1 := Lib.hid e1
        clear e1 hk2 hc
        go_wp2_with fail
        go_meet
        exact ⟨by rw [HE1.out], rfl⟩
    · have d3 : decide (kd < 2) = false := by simpa using hk2
      have e1 : BB = false := by rw [HBB.out]; simp [hk2]
      have HE1 := Lib.hid e1
      clear e1 hk2
      go_wp2_with fail
      go_meet
      exact ⟨by rw [HE1.out], rfl⟩
  case rest =>
  obtain ⟨rfl, rfl⟩ := hcut
  go_upto_if 31 with (fail)
  go_cut [2] (fun s2 wx => s2 = .pointer (some ⟨w.heap.size, 0, none⟩) ∧ wx.heap[w.heap.size]? = some (.cells (hrC c1 oth (.slice ad T.length cap)) 71 (0, 0)) ∧ wx.heap[w.heap.size + 1]? = some (.cells X 120 (0, 0)) ∧ wx.heap[w.heap.size + 1 + 1]? = some (.cells Z 71 (0, 0)) ∧ Below w.heap.size w wx)
  case first =>
    have HE0 := Lib.hid (show wc.heap[w.heap.size]? = some (.cells (hrC c oth (.slice ad T.length cap)) 71 (0, 0)) from by rw [← HYY.out]; exact HB.out.2.1)
    have HSET := Lib.hid (show (wc.setCell ⟨w.heap.size, 0, none⟩ (.int .u64 (ts : Int))).heap[w.heap.size]? = some (.cells (hrC ts oth (.slice ad T.length cap)) 71 (0, 0)) ∧ (wc.setCell ⟨w.heap.size, 0, none⟩ (.int .u64 (ts : Int))).heap[w.heap.size + 1]? = some (.cells X 120 (0, 0)) ∧ (wc.setCell ⟨w.heap.size, 0, none⟩ (.int .u64 (ts : Int))).heap[w.heap.size + 1 + 1]? = some (.cells Z 71 (0, 0)) ∧ Below w.heap.size w (wc.setCell ⟨w.heap.size, 0, none⟩ (.int .u64 (ts : Int))) from by
      have e3 := setCell_block HE0.out 0 (.int .u64 (ts : Int))
      rw [hrC_setc] at e3
      exact ⟨e3, (Below.heap_setCell _ _ _ _ (by simp)).trans HB.out.2.2.1, (Below.heap_setCell _ _ _ _ (by simp; omega)).trans HB.out.2.2.2.1, bs HB.out.1 (Nat.le_refl _) _⟩)
    cases BB
    · have HE1 := Lib.hid (show c1 = c from by rw [HTC.out, if_neg (by simpa using HBB.out.symm)])
      go_wp2_with fail
      go_meet
      exact ⟨rfl, by rw [HE1.out]; exact HE0.out, HB.out.2.2.1, HB.out.2.2.2.1, HB.out.1⟩
    · have HE1 := Lib.hid (show c1 = ts from by rw [HTC.out, if_pos (by simpa using HBB.out.symm)])
      go_wp2_with fail
      go_meet
      exact ⟨rfl, by rw [HE1.out]; exact HSET.out.1, HSET.out.2⟩
  case rest =>
  obtain ⟨rfl, hY2, hX2, hZ2, hb2⟩ := hcut
  clear g0 g1 g3 g00 f00 go_
  go_upto_region 5 with (fail)
  go_cut [] (fun wx => ∃ v8, wx.heap[w.heap.size]? = some (.cells (hrC c1 oth v8) 71 (0, 0)) ∧ wx.heap[w.heap.size + 1 + 1]? = some (.cells Z 71 (0, 0)) ∧ wx.ownsRow w.heap.size 120 4 v8 (T.length + 1) (enL tldA T ++ X.toList) ∧ Below w.heap.size w wx)
  case first =>
    have hS : ∀ w', Below wc.heap.size wc w' → w'.cell? ⟨w.heap.size, 65, none⟩ = some (.slice ad T.length cap) ∧ w'.rangeAt (w.heap.size + 1) 0 X.toList := by
      intro w' hb
      have e0 := (hb.block _ (Array.getElem?_eq_some_iff.1 hY2).1).trans hY2
      have e1 := (hb.block _ (Array.getElem?_eq_some_iff.1 hX2).1).trans hX2
      exact ⟨(cell_of_row _ _ 65 _ _ _ e0).trans (hrC_all _ _ _), fun j u hu => (cell_of_row _ _ _ _ _ _ e1).trans (by simpa using hu)⟩
    refine wp_region_mask (fun w' => w'.cell? ⟨w.heap.size, 65, none⟩ = some (.slice ad T.length cap) ∧ w'.rangeAt (w.heap.size + 1) 0 X.toList) 8 6 [false, true, true, false, true, false, false, false, false] #[false, true, true, false, true, false, false, false, false] (by kernel_rfl) (by kernel_rfl) (by kernel_rfl) (hS _ (br wc).drew) ?_
    have GG2 : wc.drew.heap[w.heap.size]? = some (.cells (hrC c1 oth (.slice ad T.length cap)) 71 (0, 0)) ∧ wc.drew.heap[w.heap.size + 1 + 1]? = some (.cells Z 71 (0, 0)) ∧ Below w.heap.size w wc.drew := ⟨hY2, hZ2, hb2.drew⟩
    have HS2 := Lib.hid (show ∀ w', Below wc.drew.heap.size wc.drew w' → _ from fun w' hb => hS w' ⟨hb.os, hb.tape, hb.output, hb.size, hb.block⟩)
    clear hS hY2 hX2 hZ2 hb2
    generalize wc.drew = W5 at *
    have GG := Lib.hid GG2
    clear GG2
    have hb5 := br W5
    have HEND := Lib.hid (show ∀ (v8 : Value) (w8 : World), w8.ownsRow W5.heap.size 120 4 v8 (T.length + 1) (enL tldA T ++ X.toList) → Below W5.heap.size W5 w8 → (w8.setCell ⟨w.heap.size, 65, none⟩ v8).heap[w.heap.size]? = some (.cells (hrC c1 oth v8) 71 (0, 0)) ∧ (w8.setCell ⟨w.heap.size, 65, none⟩ v8).heap[w.heap.size + 1 + 1]? = some (.cells Z 71 (0, 0)) ∧ (w8.setCell ⟨w.heap.size, 65, none⟩ v8).ownsRow w.heap.size 120 4 v8 (T.length + 1) (enL tldA T ++ X.toList) ∧ Below w.heap.size w (w8.setCell ⟨w.heap.size, 65, none⟩ v8) ∧ w8.frozen? ⟨w.heap.size, 65, none⟩ = false from fun v8 w8 ho hb => by
      have e0 := (hb.block _ (Array.getElem?_eq_some_iff.1 GG.out.1).1).trans GG.out.1
      have e2 := (hb.block _ (Array.getElem?_eq_some_iff.1 GG.out.2.1).1).trans GG.out.2.1
      have e3 := setCell_block e0 65 v8
      rw [hrC_setv] at e3
      refine ⟨e3, (Below.heap_setCell _ _ _ _ (by simp; omega)).trans e2, ?_, bs (bt GG.out.2.2 hb) (Nat.le_refl _) _, frozen_of_row _ _ _ _ _ e0⟩
      have hk : Kept (fun b => b = w.heap.size) w8 (w8.setCell ⟨w.heap.size, 65, none⟩ v8) := (show Kept (fun b => b = w.heap.size) w8 w8 from .refl _ _).setCell (p := ⟨w.heap.size, 65, none⟩) rfl _
      have hsz := (Array.getElem?_eq_some_iff.1 GG.out.1).1
      exact ownMore (own_keptS ho hk (fun b hb hc => by have := (ho.lt b hb).1; omega)) (by omega))
    refine wpMask_skip ?_
    iterate 2
      refine wpMask_take _ (Or.inl ⟨by rfl, fun w' hS => by (try dsimp only at hS); go_simp; try with_reducible rfl⟩) ?_
      simp only [Act.put, List.setIfInBounds_toArray, List.set_cons_zero, List.set_cons_succ]
    refine wpMask_skip ?_
    refine wpMask_take _ (yieldsIf_load_mid (by rfl) 120 (.tmp 3) rfl (w.heap.size + 1) 0 rfl X.toList _ (fun w' hS => hS.2) Tryd.underlying120 rfl (by rw [HZ1.out]; kernel_rfl)) ?_
    simp only [Act.put, List.setIfInBounds_toArray, List.set_cons_zero, List.set_cons_succ]
    refine wpMask_skip (wpMask_skip (wpMask_skip (wpMask_skip (wpMask_nil ?_))))
    refine wpAnyS_ready (rs := [0, 5]) (by kernel_rfl) (by simp) ?_
    refine AllReadyS.cons rfl (fun K hK => ?_) ?_
    · -- the empty slice first
      go_simp
      refine hK.out _ _ (fun _ => HS2.out _ (ba hb5 _)) ?_
      clear hK K
      simp only [Act.put, List.setIfInBounds_toArray, List.set_cons_zero, List.set_cons_succ]
      have own1 := ownNil W5 W5.heap.size 120 4 hb5.size
      have hb1 := ba hb5 (.cells #[] 120)
      refine wpAnyS_ready (rs := [3, 5]) (by kernel_rfl) (by simp) ?_
      refine AllReadyS.cons rfl (fun K hK => ?_) ?_
      · -- the first append next
        refine step_append_any _ rfl (.tmp 35) (.tmp 37) 69 rfl W5.heap.size 120 i0 _ 4 32 Tryd.underlying69 hi hz0 hz1 hz2 rfl (by decide) _ 0 [] rfl own1 w.heap.size ad T.length cap ((enL tldA T)) rfl (HRD.out.below (bt GG.out.2.2 hb1)) (enL_one tldA_one T) (by unfold maxLen; omega) (by omega) hb1.size ?_
        intro v6 w6 ho6 hg6 hu6
        have hb6 := grownB hb1 hb1.size hg6 (fun b hb => (own1.lt b hb).1)
        refine hK.out _ _ (fun _ => HS2.out _ hb6) ?_
        clear hK K
        simp only [Act.put, List.setIfInBounds_toArray, List.set_cons_zero, List.set_cons_succ]
        refine wpAnyS_ready (rs := [5]) (by kernel_rfl) (by simp) ?_
        refine AllReadyS.cons rfl (fun K hK => ?_) ?_
        · -- the second slice
          refine step_buildSlice_row rfl 69 (.tmp 39) rfl 120 i0 _ Tryd.underlying69 hi hz0 X rfl hXs (by omega) (by omega) ?_
          refine hK.out _ _ (fun _ => HS2.out _ (ba hb6 _)) ?_
          clear hK K
          simp only [Act.put, List.setIfInBounds_toArray, List.set_cons_zero, List.set_cons_succ]
          have ownX := ownOne w6 W5.heap.size 120 X 4 (by simpa using hxl) hb6.size
          have hb7 := ba hb6 (.cells X 120)
          refine wpAnyS_ready (rs := [6]) (by kernel_rfl) (by simp) ?_
          refine AllReadyS.cons rfl (fun K hK => ?_) ?_
          · -- the second append
            refine step_append_any _ rfl (.tmp 38) (.tmp 40) 69 rfl W5.heap.size 120 i0 _ 4 32 Tryd.underlying69 hi hz0 hz1 hz2 rfl (by decide) _ (0 + T.length) ([] ++ (enL tldA T)) rfl (ho6.alloc _) _ _ 1 1 X.toList rfl (Reads.of_own ownX) hx1 (by unfold maxLen; omega) (by omega) hb7.size ?_
            intro v8 w8 ho8 hg8 hu8
            have hb8 := grownB hb7 hb7.size hg8 (fun b hb => (ho6.lt b hb).1)
            refine hK.out _ _ (fun _ => HS2.out _ hb8) ?_
            clear hK K
            simp only [Act.put, List.setIfInBounds_toArray, List.set_cons_zero, List.set_cons_succ]
            rw [List.nil_append, Nat.zero_add] at ho8
            obtain ⟨ad8, cap8, rfl⟩ := ownForm ho8
            have HE8 := Lib.hid (HEND.out _ w8 ho8 hb8)
            have c8 := (HS2.out _ hb8).1
            have f8 := HE8.out.2.2.2.2
            clear ho8 hu8 hg8
            refine wpAnyS_ready (rs := [7]) (by kernel_rfl) (by simp) ?_
            refine AllReadyS.cons rfl (fun K hK => ?_) ?_
            · go_simp
              refine hK.out _ _ (fun _ => HS2.out _ hb8) ?_
              clear hK K
              simp only [Act.put, List.setIfInBounds_toArray, List.set_cons_zero, List.set_cons_succ]
              refine wpAnyS_ready (rs := [8]) (by kernel_rfl) (by simp) ?_
              refine AllReadyS.cons rfl (fun K hK => ?_) ?_
              · go_simp
                refine hK.out _ _ (fun h => absurd h (by omega)) ?_
                clear hK K
                simp only [Act.put, List.setIfInBounds_toArray, List.set_cons_zero, List.set_cons_succ]
                refine wpAnyS_done (by kernel_rfl) ?_ _
                clear hb8
                have HE9 := Lib.hid HE8.out.1
                go_wp2_with fail
                go_meet
                exact ⟨_, HE9.out, HE8.out.2.1, HE8.out.2.2.1, HE8.out.2.2.2.1⟩
              · exact AllReadyS.nil
            · exact AllReadyS.nil
          · exact AllReadyS.nil
        · exact AllReadyS.nil
      refine AllReadyS.cons rfl (fun K hK => ?_) ?_
      · -- the second slice next
        refine step_buildSlice_row rfl 69 (.tmp 39) rfl 120 i0 _ Tryd.underlying69 hi hz0 X rfl hXs (by omega) (by omega) ?_
        refine hK.out _ _ (fun _ => HS2.out _ (ba hb1 _)) ?_
        clear hK K
        simp only [Act.put, List.setIfInBounds_toArray, List.set_cons_zero, List.set_cons_succ]
        have ownX := ownOne _ W5.heap.size 120 X 4 (by simpa using hxl) hb1.size
        have hb7 := ba hb1 (.cells X 120)
        refine wpAnyS_ready (rs := [3]) (by kernel_rfl) (by simp) ?_
        refine AllReadyS.cons rfl (fun K hK => ?_) ?_
        · -- the first append
          refine step_append_any _ rfl (.tmp 35) (.tmp 37) 69 rfl W5.heap.size 120 i0 _ 4 32 Tryd.underlying69 hi hz0 hz1 hz2 rfl (by decide) _ 0 [] rfl (own1.alloc _) w.heap.size ad T.length cap ((enL tldA T)) rfl (HRD.out.below (bt GG.out.2.2 hb7)) (enL_one tldA_one T) (by unfold maxLen; omega) (by omega) hb7.size ?_
          intro v6 w6 ho6 hg6 hu6
          have hb6 := grownB hb7 hb7.size hg6 (fun b hb => (own1.lt b hb).1)
          refine hK.out _ _ (fun _ => HS2.out _ hb6) ?_
          clear hK K
          simp only [Act.put, List.setIfInBounds_toArray, List.set_cons_zero, List.set_cons_succ]
          have ownX6 := ownX.kept hg6 (.inr (fun e => by
              have e2 := Option.some.inj (show some (W5.alloc (.cells #[] 120)).heap.size = some W5.heap.size from e)
              simp at e2))
          refine wpAnyS_ready (rs := [6]) (by kernel_rfl) (by simp) ?_
          refine AllReadyS.cons rfl (fun K hK => ?_) ?_
          · -- the second append
            refine step_append_any _ rfl (.tmp 38) (.tmp 40) 69 rfl W5.heap.size 120 i0 _ 4 32 Tryd.underlying69 hi hz0 hz1 hz2 rfl (by decide) _ (0 + T.length) ([] ++ (enL tldA T)) rfl ho6 _ _ 1 1 X.toList rfl (Reads.of_own ownX6) hx1 (by unfold maxLen; omega) (by omega) hb6.size ?_
            intro v8 w8 ho8 hg8 hu8
            have hb8 := grownB hb6 hb6.size hg8 (fun b hb => (ho6.lt b hb).1)
            refine hK.out _ _ (fun _ => HS2.out _ hb8) ?_
            clear hK K
            simp only [Act.put, List.setIfInBounds_toArray, List.set_cons_zero, List.set_cons_succ]
            rw [List.nil_append, Nat.zero_add] at ho8
            obtain ⟨ad8, cap8, rfl⟩ := ownForm ho8
            have HE8 := Lib.hid (HEND.out _ w8 ho8 hb8)
            have c8 := (HS2.out _ hb8).1
            have f8 := HE8.out.2.2.2.2
            clear ho8 hu8 hg8
            refine wpAnyS_ready (rs := [7]) (by kernel_rfl) (by simp) ?_
            refine AllReadyS.cons rfl (fun K hK => ?_) ?_
            · go_simp
              refine hK.out _ _ (fun _ => HS2.out _ hb8) ?_
              clear hK K
              simp only [Act.put, List.setIfInBounds_toArray, List.set_cons_zero, List.set_cons_succ]
              refine wpAnyS_ready (rs := [8]) (by kernel_rfl) (by simp) ?_
              refine AllReadyS.cons rfl (fun K hK => ?_) ?_
              · go_simp
                refine hK.out _ _ (fun h => absurd h (by omega)) ?_
                clear hK K
                simp only [Act.put, List.setIfInBounds_toArray, List.set_cons_zero, List.set_cons_succ]
                refine wpAnyS_done (by kernel_rfl) ?_ _
                clear hb8
                have HE9 := Lib.hid HE8.out.1
                go_wp2_with fail
                go_meet
                exact ⟨_, HE9.out, HE8.out.2.1, HE8.out.2.2.1, HE8.out.2.2.2.1⟩
              · exact AllReadyS.nil
            · exact AllReadyS.nil
          · exact AllReadyS.nil
        · exact AllReadyS.nil
      exact AllReadyS.nil
    refine AllReadyS.cons rfl (fun K hK => ?_) ?_
    · -- the second slice first
      refine step_buildSlice_row rfl 69 (.tmp 39) rfl 120 i0 _ Tryd.underlying69 hi hz0 X rfl hXs (by omega) (by omega) ?_
      refine hK.out _ _ (fun _ => HS2.out _ (ba hb5 _)) ?_
      clear hK K
      simp only [Act.put, List.setIfInBounds_toArray, List.set_cons_zero, List.set_cons_succ]
      have ownX := ownOne W5 W5.heap.size 120 X 4 (by simpa using hxl) hb5.size
      have hb1 := ba hb5 (.cells X 120)
      refine wpAnyS_ready (rs := [0]) (by kernel_rfl) (by simp) ?_
      refine AllReadyS.cons rfl (fun K hK => ?_) ?_
      · -- the empty slice
        go_simp
        refine hK.out _ _ (fun _ => HS2.out _ (ba hb1 _)) ?_
        clear hK K
        simp only [Act.put, List.setIfInBounds_toArray, List.set_cons_zero, List.set_cons_succ]
        have own1 := ownNil _ W5.heap.size 120 4 hb1.size
        rw [show (W5.alloc (.cells X 120)).heap.size = W5.heap.size + 1 by simp] at own1
        have hb7 := ba hb1 (.cells #[] 120)
        refine wpAnyS_ready (rs := [3]) (by kernel_rfl) (by simp) ?_
        refine AllReadyS.cons rfl (fun K hK => ?_) ?_
        · -- the first append
          refine step_append_any _ rfl (.tmp 35) (.tmp 37) 69 rfl W5.heap.size 120 i0 _ 4 32 Tryd.underlying69 hi hz0 hz1 hz2 rfl (by decide) _ 0 [] rfl own1 w.heap.size ad T.length cap ((enL tldA T)) rfl (HRD.out.below (bt GG.out.2.2 hb7)) (enL_one tldA_one T) (by unfold maxLen; omega) (by omega) hb7.size ?_
          intro v6 w6 ho6 hg6 hu6
          have hb6 := grownB hb7 hb7.size hg6 (fun b hb => (own1.lt b hb).1)
          refine hK.out _ _ (fun _ => HS2.out _ hb6) ?_
          clear hK K
          simp only [Act.put, List.setIfInBounds_toArray, List.set_cons_zero, List.set_cons_succ]
          have ownX6 := (ownX.alloc _).kept hg6 (.inr (fun e => absurd (Option.some.inj (show some W5.heap.size = some (W5.heap.size + 1) from e)) (by omega)))
          refine wpAnyS_ready (rs := [6]) (by kernel_rfl) (by simp) ?_
          refine AllReadyS.cons rfl (fun K hK => ?_) ?_
          · -- the second append
            refine step_append_any _ rfl (.tmp 38) (.tmp 40) 69 rfl W5.heap.size 120 i0 _ 4 32 Tryd.underlying69 hi hz0 hz1 hz2 rfl (by decide) _ (0 + T.length) ([] ++ (enL tldA T)) rfl ho6 _ _ 1 1 X.toList rfl (Reads.of_own ownX6) hx1 (by unfold maxLen; omega) (by omega) hb6.size ?_
            intro v8 w8 ho8 hg8 hu8
            have hb8 := grownB hb6 hb6.size hg8 (fun b hb => (ho6.lt b hb).1)
            refine hK.out _ _ (fun _ => HS2.out _ hb8) ?_
            clear hK K
            simp only [Act.put, List.setIfInBounds_toArray, List.set_cons_zero, List.set_cons_succ]
            rw [List.nil_append, Nat.zero_add] at ho8
            obtain ⟨ad8, cap8, rfl⟩ := ownForm ho8
            have HE8 := Lib.hid (HEND.out _ w8 ho8 hb8)
            have c8 := (HS2.out _ hb8).1
            have f8 := HE8.out.2.2.2.2
            clear ho8 hu8 hg8
            refine wpAnyS_ready (rs := [7]) (by kernel_rfl) (by simp) ?_
            refine AllReadyS.cons rfl (fun K hK => ?_) ?_
            · go_simp
              refine hK.out _ _ (fun _ => HS2.out _ hb8) ?_
              clear hK K
              simp only [Act.put, List.setIfInBounds_toArray, List.set_cons_zero, List.set_cons_succ]
              refine wpAnyS_ready (rs := [8]) (by kernel_rfl) (by simp) ?_
              refine AllReadyS.cons rfl (fun K hK => ?_) ?_
              · go_simp
                refine hK.out _ _ (fun h => absurd h (by omega)) ?_
                clear hK K
                simp only [Act.put, List.setIfInBounds_toArray, List.set_cons_zero, List.set_cons_succ]
                refine wpAnyS_done (by kernel_rfl) ?_ _
                clear hb8
                have HE9 := Lib.hid HE8.out.1
                go_wp2_with fail
                go_meet
                exact ⟨_, HE9.out, HE8.out.2.1, HE8.out.2.2.1, HE8.out.2.2.2.1⟩
              · exact AllReadyS.nil
            · exact AllReadyS.nil
          · exact AllReadyS.nil
        · exact AllReadyS.nil
      · exact AllReadyS.nil
    exact AllReadyS.nil
  case rest =>
    obtain ⟨v8, q0, q1, q2, q3⟩ := hcut
    have HQ := Lib.hid (And.intro q0 (And.intro q1 (And.intro q2 q3)))
    have hv8 : v8.oneCell' = true := by obtain ⟨a8, c8, rfl⟩ := ownForm q2; rfl
    have HV8 := Lib.hid hv8
    have hZ8 := HZS.out
    have HZ8 := Lib.hid (show Z.size = (hrC c1 oth v8).size by rw [hrC_size]; exact hZ8)
    clear q0 q1 q2 q3 hv8 hZ8
    go_wp2_with (first
      | (with_reducible refine wpList_load_row rfl 71 (.tmp 2) rfl w.heap.size rfl 71 (hrC c1 oth v8) (0, 0) _ HQ.out.1 Tryd.underlying71 rfl hrSize ?_)
      | (with_reducible refine wpList_store_row rfl 71 (.tmp 4) (.tmp 43) rfl (w.heap.size + 1 + 1) (hrC c1 oth v8) rfl rfl 71 _ HQ.out.2.1 hrSize HZ8.out (hrC_one _ _ _ HV8.out) ?_)
      | fail)
    have hbE := bsr' HQ.out.2.2.2 (g := w.heap.size + 1 + 1) (by omega) (hrC c1 oth v8)
    have ho := HQ.out.2.2.1
    rw [← HRW.out, show T.length + 1 = (T ++ [t]).length by simp] at ho
    have hkr : Kept (fun b => b = w.heap.size + 1 + 1) wc (wc.setRow (w.heap.size + 1 + 1) (hrC c1 oth v8)) := ⟨rfl, rfl, rfl, by rw [size_setRow]; exact Nat.le_refl _, fun i _ hs => setRow_other _ _ _ _ hs⟩
    have hot : ToldIn (wc.setRow (w.heap.size + 1 + 1) (hrC c1 oth v8)) v8 (T ++ [t]) := told_own (own_keptS ho hkr (fun b hb hc => own_blk_ne ho HQ.out.2.1 (by decide) (hc ▸ hb)))
    exact bodyPost_ret (results_cell_row Tryd.results57 _ _ (w.heap.size + 1 + 1) 71 (hrC c1 oth v8) (0, 0) _ rfl (setRow_heap _ _ _ _ _ _ HQ.out.2.1) Tryd.underlying71 rfl hrSize) rfl ⟨.inr ⟨HT.out, v8, by rw [← HC1.out], hot, fun p n c e => (ownFar HQ.out.2.2.1 p n c e).1⟩, hbE⟩
end Go.Proofs.YtgjlcjbmcnofiaaDoor
