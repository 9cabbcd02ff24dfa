/-
  The law ChunkPlays.
  Conditions: none.
-/
import Derived.Test.YtilijegipjpdlaaChunkT
import Derived.Test.YtilijegipjpdlaaChunkO
import Derived.Test.YtilijegipjpdlaaChunkE
import Derived.Test.YtilijegipjpdlaaMaskB
namespace Go.Proofs.Ytilijegipjpdlaa
set_option linter.unusedVariables false
set_option linter.unusedSimpArgs false
open Go.RowKit IM
theorem LogsAt.keep2 {Z : Nat → Prop} {w w' : World} {v : Value} {l : List ItemV} (h : LogsAt w v l) (hk : Kept Z w w') (hs : ∀ p m c, v = .slice (some p) m c → ¬ Z p.block) : LogsAt w' v l := by
  obtain ⟨ad, cap, rfl, hl, hc⟩ := h
  refine ⟨ad, cap, rfl, hl, fun i hi => ?_⟩
  obtain ⟨B, O, e, hB, hr, hx⟩ := hc i hi
  exact ⟨B, O, e, Nat.lt_of_lt_of_le hB hk.size, fun j u hu => (hk.cell (p := ⟨B, O + i * 18 + j, none⟩) hB (hs ⟨B, O, none⟩ _ _ (by rw [e]))).trans (hr j u hu), hx⟩
theorem invP_step {n : Nat} {l : List ItemV} {k : Nat} {t : Int} {I : List ItemV} (h0 : InvP n l k) (h1 : InvP n l (k + 1)) (hk : k < l.length) (hp : stI n l k = (t, I)) (hl : sumD l ≤ 9223372036854775807) :
    (GoodC t (pairsI I) ∧ (∀ hI : 0 < I.length, I[0].total = t) ∧ SmallC (pairsI I)) ∧ (GoodC (takeT n t (pairsI I) l[k]) (pairsI (takeI n t I l[k])) ∧ (∀ hI : 0 < (takeI n t I l[k]).length, (takeI n t I l[k])[0].total = takeT n t (pairsI I) l[k]) ∧ SmallC (pairsI (takeI n t I l[k]))) ∧
      stI n l (k + 1) = (takeT n t (pairsI I) l[k], takeI n t I l[k]) := by
  have s0 := invP_small h0 hl
  have s1 := invP_small h1 hl
  have e1 : stI n l (k + 1) = (takeT n t (pairsI I) l[k], takeI n t I l[k]) := by
    show (takeT n (stI n l k).1 (pairsI (stI n l k).2) l[k]!, takeI n (stI n l k).1 (stI n l k).2 l[k]!) = _
    rw [hp, getElem!_pos l k hk]
  obtain ⟨a, b, _⟩ := h0
  obtain ⟨a1, b1, _⟩ := h1
  refine ⟨?_, ?_, e1⟩
  · clear e1
    generalize stI n l k = q at *
    subst hp
    exact ⟨a, b, s0⟩
  · generalize stI n l (k + 1) = q at *
    subst e1
    exact ⟨a1, b1, s1⟩
def farV (D M E N : Nat) (v : Value) : Prop := ∀ p m c, v = .slice (some p) m c → p.block ≠ D ∧ p.block ≠ M ∧ p.block ≠ E ∧ p.block < N
set_option maxRecDepth 100000 in
set_option maxHeartbeats 4000000 in
theorem law_chunkPlays (n : Nat) (v : Value) (l : List ItemV) (w : World) (hn : n < 18446744073709551616) (h : LogsAt w v l) :
    Calls Try.prog 5 #[.int .u64 (n : Int), v] w fun e w' => e = .returned (.bool true) ∧ Below w.heap.size w w' := by
  have HA := Lib.hid h
  obtain ⟨ad, cap, rfl, hl, hc⟩ := h
  have HC := Lib.hid hc
  clear hc
  go_enter Try.func5, Try.ntmps5
  go_wp2_with fail
  refine (awake23_any _).mono ?_
  rintro e w1 ⟨rfl, hb1⟩
  go_wp2
  go_loop [5, 6] (fun s i => ∃ k : Nat, k ≤ l.length ∧ i = .int .i64 (k : Int) ∧ s = .int .i64 (sumM (l.take k) : Int) ∧ sumM (l.take k) ≤ 50000 ∧ k ≤ 100) (fun _ i => l.length - (intOf i).toNat)
  case atStart => exact ⟨0, by omega, rfl, rfl, by simp [sumM], by omega⟩
  case round =>
    obtain ⟨k, hk, rfl, rfl, hs, hk100⟩ := hrel
    by_cases hlt : k < l.length
    · have hbool : decide ((k : Int) < (l.length : Int)) = true := by simpa using hlt
      have hki : (k : Int) < (l.length : Int) := by omega
      obtain ⟨B, O, rfl, hB, hr0, hsz, _⟩ := HC.out k hlt
      have hr1 : w1.rangeAt B (O + k * 18) (itemA l[k]).toList := fun j u hu => (hb1.cell (p := ⟨B, O + k * 18 + j, none⟩) hB).trans (hr0 j u hu)
      have x1 : w1.cell? ⟨B, O + k * 18 + 1, none⟩ = some (.string l[k].data) := hr1 1 _ rfl
      have x10 : w1.cell? ⟨B, O + k * 18 + 10, none⟩ = some (.slice l[k].rc.ad l[k].rc.len l[k].rc.cap) := hr1 10 _ rfl
      have hstep : sumM (l.take (k + 1)) = sumM (l.take k) + min l[k].data.size 50000 := by unfold sumM; rw [List.take_succ_eq_append_getElem hlt, List.map_append, List.sum_append]; simp
      have HS := Lib.hid hstep
      clear hr0 hr1 hstep
      generalize l[k] = x at *
      generalize hs0 : sumM (l.take k) = s0 at *
      have HS0 := Lib.hid hs0
      clear hs0 HA HC
      obtain ⟨z, hz⟩ : ∃ z : Nat, z = min x.data.size 50000 := ⟨_, rfl⟩
      have hz5 : z ≤ 50000 := by omega
      have hite : (if (50000 : Int) < (x.data.size : Int) then (50000 : Int) else (x.data.size : Int)) = (z : Int) := by split <;> omega
      rw [← hz] at HS
      clear hz
      by_cases g1 : 100 ≤ k
      · have d1 : decide ((100 : Int) ≤ (k : Int)) = true := by simp; omega
        have d1' : decide ((k : Int) ≥ 100) = true := by simp; omega
        have d1'' : decide (100 ≤ k) = true := by simp; omega
        go_wp2
        go_ret
        exact ⟨rfl, hb1⟩
      have d1 : decide ((100 : Int) ≤ (k : Int)) = false := by simp; omega
      have d1' : decide ((k : Int) ≥ 100) = false := by simp; omega
      have d1'' : decide (100 ≤ k) = false := by simp; omega
      by_cases g2 : 50000 < s0 + z
      · have d2 : decide ((50000 : Int) < (s0 : Int) + (z : Int)) = true := by simp; omega
        go_wp2
        go_ret
        exact ⟨rfl, hb1⟩
      have d2 : decide ((50000 : Int) < (s0 : Int) + (z : Int)) = false := by simp; omega
      by_cases g3 : 100 < x.rc.len
      · have d3 : decide ((100 : Int) < (x.rc.len : Int)) = true := by simp; omega
        have d3' : decide (100 < x.rc.len) = true := by simp; omega
        go_wp2
        go_ret
        exact ⟨rfl, hb1⟩
      have d3 : decide ((100 : Int) < (x.rc.len : Int)) = false := by simp; omega
      have d3' : decide (100 < x.rc.len) = false := by simp; omega
      go_wp2
      exact ⟨⟨k + 1, by omega, by go_num, by rw [HS.out]; go_num, by rw [HS.out]; omega, by omega⟩, by simp [intOf]; omega⟩
    · have hbool : decide ((k : Int) < (l.length : Int)) = false := by simpa using hlt
      obtain rfl : k = l.length := by omega
      rw [List.take_length] at hs
      clear hbool hlt hk
      go_wp2_with fail
      refine (New_any n _).mono ?_
      rintro e w3 ⟨D, M, rfl, hA3, hb3', hD, hM⟩
      have hDw : w.heap.size ≤ D := Nat.le_trans hb1.size hD
      have hMw : w.heap.size ≤ M := Nat.le_trans hb1.size hM
      have hb3 := hb1.trans (hb3'.mono hb1.size)
      clear hb3' hD hM hb1
      have hdl : sumD l ≤ 9223372036854775807 := (sum_small l (fun x hx => by
        obtain ⟨q, hq, rfl⟩ := List.mem_iff_getElem.1 hx
        obtain ⟨_, _, _, _, _, h, _⟩ := HC.out q hq
        exact h) hs).1
      have HI := Lib.hid (fun k hk => invP n l k hk)
      have HL := Lib.hid hdl
      have hb4 := ba hb3 (.cells #[.int .u64 (n : Int), .slice none 0 0] 54)
      have hx4 := heap_alloc_new w3 (.cells #[.int .u64 (n : Int), .slice none 0 0] 54)
      have hA4 := hA3.below (ba (br w3) (.cells #[.int .u64 (n : Int), .slice none 0 0] 54))
      obtain ⟨E, hE⟩ : ∃ E, E = w3.heap.size := ⟨_, rfl⟩
      have hDE : D < E := by rw [hE]; exact hA3.lt.1
      have hME : M < E := by rw [hE]; exact hA3.lt.2
      go_wp2
      rw [← hE] at hx4 ⊢
      generalize w3.alloc (.cells #[.int .u64 (n : Int), .slice none 0 0] 54) = w4 at *
      have hSS : ∀ q, q < w.heap.size → ¬ (q = D ∨ q = M ∨ q = E) := by intro q hq; omega
      have HS := Lib.hid (And.intro hSS (And.intro hDE hME))
      clear hA3 hb3 hE hdl hs hDw hMw hSS
      go_loopw [9] (fun i wr => ∃ (k : Nat) (v : Value), k ≤ l.length ∧ i = .int .i64 (k : Int) ∧ AsmAt wr D M n (stI n l k).1 (pairsI (stI n l k).2) ∧ wr.heap[E]? = some (.cells #[.int .u64 (n : Int), v] 54) ∧ LogsAt wr v (stI n l k).2 ∧ farV D M E wr.heap.size v ∧ Below w.heap.size w wr) (fun i _ => l.length - (intOf i).toNat)
      case atStart => exact ⟨0, _, by omega, rfl, hA4, hx4, ⟨none, 0, rfl, by simp [stI], fun i hi => absurd hi (by simp [stI])⟩, (show farV D M E w4.heap.size (.slice none 0 0) from fun p m c e => by cases e), hb4⟩
      case round =>
        clear hA4 hx4 hb4
        obtain ⟨k, v, hk, rfl, hAr, hEr, hLr, hfr, hbr⟩ := hrel
        by_cases hlt : k < l.length
        · have hbool : decide ((k : Int) < (l.length : Int)) = true := by simpa using hlt
          have hki : (k : Int) < (l.length : Int) := by omega
          obtain ⟨B, O, rfl, hB, hr0, hsz, hxn⟩ := HC.out k hlt
          obtain ⟨t, I, hst⟩ : ∃ t I, stI n l k = (t, I) := ⟨_, _, rfl⟩
          obtain ⟨⟨hgood, hfirst, hsm⟩, ⟨hgood1, hfirst1, hsm1⟩, e1⟩ := invP_step (HI.out k hk) (HI.out (k + 1) hlt) hlt hst HL.out
          rw [hst] at hAr hLr
          simp only at hAr hLr
          have hptk := pairs_take n t I l[k]
          have HE1 := Lib.hid e1
          generalize hxx : l[k] = x at *
          have HR := Lib.hid (show ∀ W, Below w.heap.size w W → W.rangeAt B (O + k * 18) (itemA x).toList from fun W hb j u hu => (hb.cell (p := ⟨B, O + k * 18 + j, none⟩) hB).trans (hr0 j u hu))
          have HG := Lib.hid (And.intro hgood (And.intro hfirst (And.intro hsm (And.intro hgood1 (And.intro hfirst1 (And.intro hsm1 (And.intro hptk (And.intro hsz hxn))))))))
          have HW := Lib.hid (And.intro hAr (And.intro hEr (And.intro hLr (And.intro hfr hbr))))
          clear hsm hsm1 e1 hgood hfirst hgood1 hfirst1 hst hptk hxx hr0 hAr hEr hLr hfr hbr hsz hxn
          go_wp2_with fail
          refine (Copy_any D M n t (pairsI I) _ HW.out.1).mono ?_
          rintro e w5 ⟨D2, M2, rfl, hC5, hb5, hD2, hM2⟩
          have hbw5 := HW.out.2.2.2.2.trans (hb5.mono HW.out.2.2.2.2.size)
          have HR5 := Lib.hid (HR.out _ hbw5)
          have HT := Lib.hid (Take_any D M n t (pairsI I) x w5 (HW.out.1.below hb5) (by have := HG.out.1.len.2; exact this))
          have H5 := Lib.hid (And.intro hC5 (And.intro hb5 (And.intro hbw5 (And.intro hD2 hM2))))
          clear hC5 hb5 hbw5 hD2 hM2
          go_wp2_with (refine wpList_load_mid rfl 42 (.tmp 70) rfl B (O + k * 18) rfl (itemA x).toList _ HR5.out Try.underlying42 rfl (by kernel_rfl) ?_)
          refine HT.out.mono ?_
          rintro e w6 ⟨rfl, hA6, hk6⟩
          have hE6 : w6.heap[E]? = some (.cells #[.int .u64 (n : Int), v] 54) := hk6.keep ((H5.out.2.1.block _ (Array.getElem?_eq_some_iff.1 HW.out.2.1).1).trans HW.out.2.1) (by unfold TwoB; omega)
          have hL6 : LogsAt w6 v I := (HW.out.2.2.1.below H5.out.2.1).keep2 hk6 (fun p m c e => by have := HW.out.2.2.2.1 p m c e; unfold TwoB; omega)
          have hb6 : Below w.heap.size w w6 := hk6.out H5.out.2.2.1 H5.out.2.2.1.size (fun q hq => by have := HS.out.1 q hq; unfold TwoB; omega)
          have hR6 := HR.out _ hb6
          rw [← HG.out.2.2.2.2.2.2.1] at hA6
          have H6 := Lib.hid (And.intro hA6 (And.intro hk6 (And.intro hb6 hL6)))
          clear hA6 hk6 hb6
          go_wp2_with fail
          go_cut [12, 13] (fun s12 s13 wx => ∃ X v2, s12 = .pointer (some ⟨X, 0, none⟩) ∧ s13 = .bool (takeB n t (pairsI I) x) ∧ wx.heap[X]? = some (.cells #[.int .u64 (n : Int), v2] 54) ∧ w6.heap.size ≤ X ∧ LogsAt wx v2 (takeI n t I x) ∧ (v2 = v ∨ ∀ p m c, v2 = .slice (some p) m c → w6.heap.size ≤ p.block ∧ p.block ≠ X ∧ p.block < wx.heap.size) ∧ Below w6.heap.size w6 wx)
          case first =>
            have HS6 := Lib.hid (show ∀ w', Below w6.drew.heap.size w6.drew w' → w'.rangeAt E 0 [.int .u64 (n : Int), v] ∧ w'.rangeAt B (O + k * 18) (itemA x).toList from fun w' hb => by
              have e0 := (hb.block _ (Array.getElem?_eq_some_iff.1 hE6).1).trans hE6
              exact ⟨fun j u hu => (cell_of_row _ _ _ _ _ _ e0).trans (by simpa using hu), fun j u hu => ((show Below w6.heap.size w6 w' from ⟨hb.os, hb.tape, hb.output, hb.size, hb.block⟩).cell (p := ⟨B, O + k * 18 + j, none⟩) (Nat.lt_of_lt_of_le hB H6.out.2.2.1.size)).trans (hR6 j u hu)⟩)
            have HM6 := Lib.hid (show ∀ w', Below w6.drew.heap.size w6.drew w' → LogsAt w' v I from fun w' hb => hL6.below ⟨hb.os, hb.tape, hb.output, hb.size, hb.block⟩)
            have HF := Lib.hid (show ∀ (X : Nat) (wx : World) (v2 : Value), wx.heap[X]? = some (.cells #[.int .u64 0, .slice none 0 0] 54) → w6.drew.heap.size ≤ X → LogsAt wx v2 (takeI n t I x) → (v2 = v ∨ ∀ p m c, v2 = .slice (some p) m c → w6.drew.heap.size ≤ p.block ∧ p.block ≠ X ∧ p.block < wx.heap.size) → Below w6.drew.heap.size w6.drew wx →
                (((wx.setCell ⟨X, 0, none⟩ (.int .u64 (n : Int))).setCell ⟨X, 1, none⟩ v2).heap[X]? = some (.cells #[.int .u64 (n : Int), v2] 54) ∧ w6.heap.size ≤ X ∧ LogsAt ((wx.setCell ⟨X, 0, none⟩ (.int .u64 (n : Int))).setCell ⟨X, 1, none⟩ v2) v2 (takeI n t I x) ∧ (v2 = v ∨ ∀ p m c, v2 = .slice (some p) m c → w6.heap.size ≤ p.block ∧ p.block ≠ X ∧ p.block < ((wx.setCell ⟨X, 0, none⟩ (.int .u64 (n : Int))).setCell ⟨X, 1, none⟩ v2).heap.size) ∧ Below w6.heap.size w6 ((wx.setCell ⟨X, 0, none⟩ (.int .u64 (n : Int))).setCell ⟨X, 1, none⟩ v2)) ∧ Below w6.drew.heap.size w6.drew ((wx.setCell ⟨X, 0, none⟩ (.int .u64 (n : Int))).setCell ⟨X, 1, none⟩ v2) from fun X wx v2 hX hXl hL hv hb => by
              have kk := setCell_block (setCell_block hX 0 (.int .u64 (n : Int))) 1 v2
              have hk : Kept (fun q => q = X) wx ((wx.setCell ⟨X, 0, none⟩ (.int .u64 (n : Int))).setCell ⟨X, 1, none⟩ v2) :=
                ((show Kept (fun q => q = X) wx wx from Kept.of_below (br wx)).setCell (p := ⟨X, 0, none⟩) rfl _).setCell (p := ⟨X, 1, none⟩) rfl _
              have hbb := hk.out hb hb.size (by intro q hq; omega)
              refine ⟨⟨kk, hXl, hL.keep2 hk ?_, by rw [show ((wx.setCell ⟨X, 0, none⟩ (.int .u64 (n : Int))).setCell ⟨X, 1, none⟩ v2).heap.size = wx.heap.size by simp [World.setCell]]; exact hv, ⟨hbb.os, hbb.tape, hbb.output, hbb.size, hbb.block⟩⟩, hbb⟩
              intro p m c e he
              rcases hv with rfl | hv
              · have h1 := (HW.out.2.2.2.1 p m c e).2.2.2
                have h2 := H5.out.2.1.size
                have h3 := H6.out.2.1.size
                have h4 : w6.heap.size ≤ X := hXl
                omega
              · exact (hv p m c e).2.1 he)
            refine wp_region_mask (fun w' => w'.rangeAt E 0 [.int .u64 (n : Int), v] ∧ w'.rangeAt B (O + k * 18) (itemA x).toList) 12 8 [true, true, true, true, true, false, false, false, false, false, false, false, false] #[true, true, true, true, true, false, false, false, false, false, false, false, false] (by kernel_rfl) (by kernel_rfl) (by kernel_rfl) (HS6.out _ (br _)) ?_
            generalize w6.drew = W6 at *
            refine wpMask_take _ (yieldsIf_load_mid (by rfl) 54 (.tmp 8) rfl E 0 rfl [.int .u64 (n : Int), v] _ (fun w' hS => hS.1) Try.underlying54 rfl (by kernel_rfl)) ?_
            simp only [Act.put, List.setIfInBounds_toArray, List.set_cons_zero, List.set_cons_succ]
            refine wpMask_take _ (Or.inl ⟨by rfl, fun w' hS => by (try dsimp only at hS); go_simp; try with_reducible rfl⟩) ?_
            simp only [Act.put, List.setIfInBounds_toArray, List.set_cons_zero, List.set_cons_succ]
            refine wpMask_take _ (Or.inl ⟨by rfl, fun w' hS => by (try dsimp only at hS); go_simp; try with_reducible rfl⟩) ?_
            simp only [Act.put, List.setIfInBounds_toArray, List.set_cons_zero, List.set_cons_succ]
            refine wpMask_take _ (Or.inl ⟨by rfl, fun w' hS => by (try dsimp only at hS); go_simp; try with_reducible rfl⟩) ?_
            simp only [Act.put, List.setIfInBounds_toArray, List.set_cons_zero, List.set_cons_succ]
            refine wpMask_take _ (yieldsIf_load_mid (by rfl) 42 (.tmp 77) rfl B (O + k * 18) rfl (itemA x).toList _ (fun w' hS => hS.2) Try.underlying42 rfl (by kernel_rfl)) ?_
            simp only [Act.put, List.setIfInBounds_toArray, List.set_cons_zero, List.set_cons_succ]
            refine wpMask_skip (wpMask_skip (wpMask_skip (wpMask_skip (wpMask_skip (wpMask_skip (wpMask_skip (wpMask_skip (wpMask_nil ?_))))))))
            have b6 := br W6
            refine wpAnyS_ready (rs := [5, 10]) (by kernel_rfl) (by simp) ?_
            refine AllReadyS.cons rfl (fun K hK => ?_) ?_
            · -- the item first
              go_simp
              refine (lawItem_any x _).mono ?_
              rintro e w7 ⟨rfl, hbw7⟩
              replace hbw7 := bt b6 hbw7
              go_wp2_with fail
              refine hK.out _ _ (fun _ => HS6.out _ hbw7) ?_
              clear hK K
              simp only [Act.put, List.setIfInBounds_toArray, List.set_cons_zero, List.set_cons_succ]
              refine wpAnyS_ready (rs := [6, 10]) (by kernel_rfl) (by simp) ?_
              refine AllReadyS.cons rfl (fun K hK => ?_) ?_
              · -- the document's Take next
                go_simp
                refine (refTake_any n v I t x _ (HM6.out _ hbw7) HG.out.1 HG.out.2.1 (by rw [← HG.out.2.2.2.2.2.2.1]; exact HG.out.2.2.2.2.2.1) HG.out.2.2.2.2.2.2.2.1 HG.out.2.2.2.2.2.2.2.2).mono ?_
                rintro e w8 ⟨v2, hv2, rfl, hL2, hr2⟩
                have hbw8 := bt hbw7 hr2
                go_wp2_with fail
                refine hK.out _ _ (fun _ => HS6.out _ hbw8) ?_
                clear hK K
                simp only [Act.put, List.setIfInBounds_toArray, List.set_cons_zero, List.set_cons_succ]
                refine wpAnyS_take (i := 7) _ rfl (by kernel_rfl) (Or.inl ⟨by rfl, fun w' hS => by (try dsimp only at hS); go_simp; try with_reducible rfl⟩) (HS6.out _ hbw8) ?_
                simp only [Act.put, List.setIfInBounds_toArray, List.set_cons_zero, List.set_cons_succ]
                refine wpAnyS_take (i := 8) _ rfl (by kernel_rfl) (Or.inl ⟨by rfl, fun w' hS => by (try dsimp only at hS); go_simp; try with_reducible rfl⟩) (HS6.out _ hbw8) ?_
                simp only [Act.put, List.setIfInBounds_toArray, List.set_cons_zero, List.set_cons_succ]
                refine wpAnyS_take (i := 9) _ rfl (by kernel_rfl) (Or.inl ⟨by rfl, fun w' hS => by (try dsimp only at hS); go_simp; try with_reducible rfl⟩) (HS6.out _ hbw8) ?_
                simp only [Act.put, List.setIfInBounds_toArray, List.set_cons_zero, List.set_cons_succ]
                refine wpAnyS_ready (rs := [10]) (by kernel_rfl) (by simp) ?_
                refine AllReadyS.cons rfl (fun K hK => ?_) ?_
                · -- the variable
                  go_simp
                  refine hK.out _ _ (fun _ => HS6.out _ (ba hbw8 _)) ?_
                  clear hK K
                  simp only [Act.put, List.setIfInBounds_toArray, List.set_cons_zero, List.set_cons_succ]
                  have hX := heap_alloc_new w8 (.cells #[.int .u64 0, .slice none 0 0] 54)
                  have hXl := hbw8.size
                  have hbF := ba hbw8 (.cells #[.int .u64 0, .slice none 0 0] 54)
                  have hv3 := hv2.imp id (fun h (p : Addr) m c e => (show W6.heap.size ≤ p.block ∧ p.block ≠ w8.heap.size ∧ p.block < (w8.alloc (.cells #[.int .u64 0, .slice none 0 0] 54)).heap.size from by have := h p m c e; have := hbw7.size; have hz : (w8.alloc (.cells #[.int .u64 0, .slice none 0 0] 54)).heap.size = w8.heap.size + 1 := (by simp); omega))
                  replace hL2 := hL2.below (ba (br w8) (.cells #[.int .u64 0, .slice none 0 0] 54))
                  generalize w8.alloc (.cells #[.int .u64 0, .slice none 0 0] 54) = w9 at *
                  have c0 := cell_of_row _ _ 0 _ _ _ hX
                  have c1 := cell_of_row _ _ 1 _ _ _ hX
                  have f0 := frozen_of_row _ _ 0 _ _ hX
                  have f1 := frozen_of_row _ _ 1 _ _ hX
                  refine wpAnyS_ready (rs := [11]) (by kernel_rfl) (by simp) ?_
                  refine AllReadyS.cons rfl (fun K hK => ?_) ?_
                  · obtain ⟨ad2, cap2, rfl⟩ : ∃ ad2 cap2, v2 = .slice ad2 (takeI n t I x).length cap2 := by
                      obtain ⟨q1, q2, e, _⟩ := hL2
                      exact ⟨q1, q2, e⟩
                    have hE := HF.out _ _ _ hX hXl hL2 hv3 hbF
                    go_simp
                    refine hK.out _ _ (fun _ => HS6.out _ hE.2) ?_
                    clear hK K
                    simp only [Act.put, List.setIfInBounds_toArray, List.set_cons_zero, List.set_cons_succ]
                    refine wpAnyS_ready (rs := [12]) (by kernel_rfl) (by simp) ?_
                    refine AllReadyS.cons rfl (fun K hK => ?_) ?_
                    · go_simp
                      refine hK.out _ _ (fun h => absurd h (by omega)) ?_
                      clear hK K
                      simp only [Act.put, List.setIfInBounds_toArray, List.set_cons_zero, List.set_cons_succ]
                      refine wpAnyS_done (by kernel_rfl) ?_ _
                      go_wp2
                      go_meet
                      exact ⟨_, _, rfl, rfl, hE.1⟩
                    · exact AllReadyS.nil
                  · exact AllReadyS.nil
                · exact AllReadyS.nil
              refine AllReadyS.cons rfl (fun K hK => ?_) ?_
              · -- the variable next
                go_simp
                refine hK.out _ _ (fun _ => HS6.out _ (ba hbw7 _)) ?_
                clear hK K
                simp only [Act.put, List.setIfInBounds_toArray, List.set_cons_zero, List.set_cons_succ]
                have hX0 := heap_alloc_new w7 (.cells #[.int .u64 0, .slice none 0 0] 54)
                have hb8 := ba hbw7 (.cells #[.int .u64 0, .slice none 0 0] 54)
                refine wpAnyS_ready (rs := [6]) (by kernel_rfl) (by simp) ?_
                refine AllReadyS.cons rfl (fun K hK => ?_) ?_
                · -- the document's Take
                  go_simp
                  refine (refTake_any n v I t x _ (HM6.out _ hb8) HG.out.1 HG.out.2.1 (by rw [← HG.out.2.2.2.2.2.2.1]; exact HG.out.2.2.2.2.2.1) HG.out.2.2.2.2.2.2.2.1 HG.out.2.2.2.2.2.2.2.2).mono ?_
                  rintro e w9 ⟨v2, hv2, rfl, hL2, hr2⟩
                  have hbw9 := bt hb8 hr2
                  go_wp2_with fail
                  refine hK.out _ _ (fun _ => HS6.out _ hbw9) ?_
                  clear hK K
                  simp only [Act.put, List.setIfInBounds_toArray, List.set_cons_zero, List.set_cons_succ]
                  refine wpAnyS_take (i := 7) _ rfl (by kernel_rfl) (Or.inl ⟨by rfl, fun w' hS => by (try dsimp only at hS); go_simp; try with_reducible rfl⟩) (HS6.out _ hbw9) ?_
                  simp only [Act.put, List.setIfInBounds_toArray, List.set_cons_zero, List.set_cons_succ]
                  refine wpAnyS_take (i := 8) _ rfl (by kernel_rfl) (Or.inl ⟨by rfl, fun w' hS => by (try dsimp only at hS); go_simp; try with_reducible rfl⟩) (HS6.out _ hbw9) ?_
                  simp only [Act.put, List.setIfInBounds_toArray, List.set_cons_zero, List.set_cons_succ]
                  refine wpAnyS_take (i := 9) _ rfl (by kernel_rfl) (Or.inl ⟨by rfl, fun w' hS => by (try dsimp only at hS); go_simp; try with_reducible rfl⟩) (HS6.out _ hbw9) ?_
                  simp only [Act.put, List.setIfInBounds_toArray, List.set_cons_zero, List.set_cons_succ]
                  have hX := (hr2.block _ (Array.getElem?_eq_some_iff.1 hX0).1).trans hX0
                  have hXl := hbw7.size
                  have hbF := hbw9
                  have hv3 := hv2.imp id (fun h (p : Addr) m c e => (show W6.heap.size ≤ p.block ∧ p.block ≠ w7.heap.size ∧ p.block < w9.heap.size from by have := h p m c e; have := hbw7.size; have hz : (w7.alloc (.cells #[.int .u64 0, .slice none 0 0] 54)).heap.size = w7.heap.size + 1 := (by simp); omega))
                  have c0 := cell_of_row _ _ 0 _ _ _ hX
                  have c1 := cell_of_row _ _ 1 _ _ _ hX
                  have f0 := frozen_of_row _ _ 0 _ _ hX
                  have f1 := frozen_of_row _ _ 1 _ _ hX
                  refine wpAnyS_ready (rs := [11]) (by kernel_rfl) (by simp) ?_
                  refine AllReadyS.cons rfl (fun K hK => ?_) ?_
                  · obtain ⟨ad2, cap2, rfl⟩ : ∃ ad2 cap2, v2 = .slice ad2 (takeI n t I x).length cap2 := by
                      obtain ⟨q1, q2, e, _⟩ := hL2
                      exact ⟨q1, q2, e⟩
                    have hE := HF.out _ _ _ hX hXl hL2 hv3 hbF
                    go_simp
                    refine hK.out _ _ (fun _ => HS6.out _ hE.2) ?_
                    clear hK K
                    simp only [Act.put, List.setIfInBounds_toArray, List.set_cons_zero, List.set_cons_succ]
                    refine wpAnyS_ready (rs := [12]) (by kernel_rfl) (by simp) ?_
                    refine AllReadyS.cons rfl (fun K hK => ?_) ?_
                    · go_simp
                      refine hK.out _ _ (fun h => absurd h (by omega)) ?_
                      clear hK K
                      simp only [Act.put, List.setIfInBounds_toArray, List.set_cons_zero, List.set_cons_succ]
                      refine wpAnyS_done (by kernel_rfl) ?_ _
                      go_wp2
                      go_meet
                      exact ⟨_, _, rfl, rfl, hE.1⟩
                    · exact AllReadyS.nil
                  · exact AllReadyS.nil
                · exact AllReadyS.nil
              exact AllReadyS.nil
            refine AllReadyS.cons rfl (fun K hK => ?_) ?_
            · -- the variable first
              go_simp
              refine hK.out _ _ (fun _ => HS6.out _ (ba b6 _)) ?_
              clear hK K
              simp only [Act.put, List.setIfInBounds_toArray, List.set_cons_zero, List.set_cons_succ]
              have hX0 := heap_alloc_new W6 (.cells #[.int .u64 0, .slice none 0 0] 54)
              have hb7 := ba b6 (.cells #[.int .u64 0, .slice none 0 0] 54)
              refine wpAnyS_ready (rs := [5]) (by kernel_rfl) (by simp) ?_
              refine AllReadyS.cons rfl (fun K hK => ?_) ?_
              · -- the item
                go_simp
                refine (lawItem_any x _).mono ?_
                rintro e w8 ⟨rfl, hr8⟩
                have hbw8 := bt hb7 hr8
                go_wp2_with fail
                refine hK.out _ _ (fun _ => HS6.out _ hbw8) ?_
                clear hK K
                simp only [Act.put, List.setIfInBounds_toArray, List.set_cons_zero, List.set_cons_succ]
                have hX8 := (hr8.block _ (Array.getElem?_eq_some_iff.1 hX0).1).trans hX0
                refine wpAnyS_ready (rs := [6]) (by kernel_rfl) (by simp) ?_
                refine AllReadyS.cons rfl (fun K hK => ?_) ?_
                · -- the document's Take
                  go_simp
                  refine (refTake_any n v I t x _ (HM6.out _ hbw8) HG.out.1 HG.out.2.1 (by rw [← HG.out.2.2.2.2.2.2.1]; exact HG.out.2.2.2.2.2.1) HG.out.2.2.2.2.2.2.2.1 HG.out.2.2.2.2.2.2.2.2).mono ?_
                  rintro e w9 ⟨v2, hv2, rfl, hL2, hr2⟩
                  have hbw9 := bt hbw8 hr2
                  go_wp2_with fail
                  refine hK.out _ _ (fun _ => HS6.out _ hbw9) ?_
                  clear hK K
                  simp only [Act.put, List.setIfInBounds_toArray, List.set_cons_zero, List.set_cons_succ]
                  refine wpAnyS_take (i := 7) _ rfl (by kernel_rfl) (Or.inl ⟨by rfl, fun w' hS => by (try dsimp only at hS); go_simp; try with_reducible rfl⟩) (HS6.out _ hbw9) ?_
                  simp only [Act.put, List.setIfInBounds_toArray, List.set_cons_zero, List.set_cons_succ]
                  refine wpAnyS_take (i := 8) _ rfl (by kernel_rfl) (Or.inl ⟨by rfl, fun w' hS => by (try dsimp only at hS); go_simp; try with_reducible rfl⟩) (HS6.out _ hbw9) ?_
                  simp only [Act.put, List.setIfInBounds_toArray, List.set_cons_zero, List.set_cons_succ]
                  refine wpAnyS_take (i := 9) _ rfl (by kernel_rfl) (Or.inl ⟨by rfl, fun w' hS => by (try dsimp only at hS); go_simp; try with_reducible rfl⟩) (HS6.out _ hbw9) ?_
                  simp only [Act.put, List.setIfInBounds_toArray, List.set_cons_zero, List.set_cons_succ]
                  have hX := (hr2.block _ (Array.getElem?_eq_some_iff.1 hX8).1).trans hX8
                  have hXl := Nat.le_refl W6.heap.size
                  have hbF := hbw9
                  have hv3 := hv2.imp id (fun h (p : Addr) m c e => (show W6.heap.size ≤ p.block ∧ p.block ≠ W6.heap.size ∧ p.block < w9.heap.size from by have := h p m c e; have := (Array.getElem?_eq_some_iff.1 hX8).1; omega))
                  have c0 := cell_of_row _ _ 0 _ _ _ hX
                  have c1 := cell_of_row _ _ 1 _ _ _ hX
                  have f0 := frozen_of_row _ _ 0 _ _ hX
                  have f1 := frozen_of_row _ _ 1 _ _ hX
                  refine wpAnyS_ready (rs := [11]) (by kernel_rfl) (by simp) ?_
                  refine AllReadyS.cons rfl (fun K hK => ?_) ?_
                  · obtain ⟨ad2, cap2, rfl⟩ : ∃ ad2 cap2, v2 = .slice ad2 (takeI n t I x).length cap2 := by
                      obtain ⟨q1, q2, e, _⟩ := hL2
                      exact ⟨q1, q2, e⟩
                    have hE := HF.out _ _ _ hX hXl hL2 hv3 hbF
                    go_simp
                    refine hK.out _ _ (fun _ => HS6.out _ hE.2) ?_
                    clear hK K
                    simp only [Act.put, List.setIfInBounds_toArray, List.set_cons_zero, List.set_cons_succ]
                    refine wpAnyS_ready (rs := [12]) (by kernel_rfl) (by simp) ?_
                    refine AllReadyS.cons rfl (fun K hK => ?_) ?_
                    · go_simp
                      refine hK.out _ _ (fun h => absurd h (by omega)) ?_
                      clear hK K
                      simp only [Act.put, List.setIfInBounds_toArray, List.set_cons_zero, List.set_cons_succ]
                      refine wpAnyS_done (by kernel_rfl) ?_ _
                      go_wp2
                      go_meet
                      exact ⟨_, _, rfl, rfl, hE.1⟩
                    · exact AllReadyS.nil
                  · exact AllReadyS.nil
                · exact AllReadyS.nil
              · exact AllReadyS.nil
            exact AllReadyS.nil
          case rest =>
            obtain ⟨X, v2, rfl, rfl, hX, hXl, hL7, hv7, hb7⟩ := hcut
            generalize takeB n t (pairsI I) x = tb at *
            generalize takeT n t (pairsI I) x = t2 at *
            generalize takeI n t I x = I2 at *
            have hC6 : AsmAt w6 D2 M2 n t (pairsI I) := by
              have h1 := HW.out.1.lt
              have h2 := H5.out.2.2.2
              exact H5.out.1.kept H6.out.2.1 (by unfold TwoB; omega) (by unfold TwoB; omega)
            have hE7 : wc.heap[E]? = some (.cells #[.int .u64 (n : Int), v] 54) := (hb7.block _ (Array.getElem?_eq_some_iff.1 hE6).1).trans hE6
            have H7 := Lib.hid (And.intro (H6.out.1.below hb7) (And.intro (hC6.below hb7) (And.intro (H6.out.2.2.2.below hb7) (And.intro hE7 (And.intro hX (And.intro hXl (And.intro hL7 (And.intro hv7 hb7))))))))
            clear hC6 hE7 hX hXl hL7 hv7 hb7
            go_wp2_with fail
            refine (Whole_any D M n t2 (pairsI I2) _ H7.out.1 HG.out.2.2.2.1 HG.out.2.2.2.2.2.1).mono ?_
            rintro e w8 ⟨rfl, hb8⟩
            have x8 := (hb8.block _ (Array.getElem?_eq_some_iff.1 H7.out.2.2.2.2.1).1).trans H7.out.2.2.2.2.1
            have c0 : w8.cell? ⟨X, 0, none⟩ = some (.int .u64 (n : Int)) := cell_of_row _ _ 0 _ _ _ x8
            have c1 : w8.cell? ⟨X, 1, none⟩ = some v2 := cell_of_row _ _ 1 _ _ _ x8
            have H8 := Lib.hid (And.intro hb8 x8)
            clear hb8 x8
            go_wp2_with fail
            refine (refWhole_any n v2 I2 t2 _ (H7.out.2.2.2.2.2.2.1.below H8.out.1) HG.out.2.2.2.1 HG.out.2.2.2.2.1 HG.out.2.2.2.2.2.1).mono ?_
            rintro e w9 ⟨rfl, hr9⟩
            clear c0 c1
            have H9 := Lib.hid (bt H8.out.1 hr9)
            go_wp2_with fail
            refine (Whole_any D2 M2 n t (pairsI I) _ (H7.out.2.1.below H9.out) HG.out.1 HG.out.2.2.1).mono ?_
            rintro e w10 ⟨rfl, hr10⟩
            have H10 := Lib.hid (bt H9.out hr10)
            clear hr9 hr10
            have x10 := (H10.out.block _ (Array.getElem?_eq_some_iff.1 H7.out.2.2.2.1).1).trans H7.out.2.2.2.1
            have c0 : w10.cell? ⟨E, 0, none⟩ = some (.int .u64 (n : Int)) := cell_of_row _ _ 0 _ _ _ x10
            have c1 : w10.cell? ⟨E, 1, none⟩ = some v := cell_of_row _ _ 1 _ _ _ x10
            clear x10
            go_wp2_with fail
            refine (refWhole_any n v I t _ (H7.out.2.2.1.below H10.out) HG.out.1 HG.out.2.1 HG.out.2.2.1).mono ?_
            rintro e w11 ⟨rfl, hr11⟩
            have hb11 := bt H10.out hr11
            clear c0 c1 hr11
            have xE := (hb11.block _ (Array.getElem?_eq_some_iff.1 H7.out.2.2.2.1).1).trans H7.out.2.2.2.1
            have xX := (hb11.block _ (Array.getElem?_eq_some_iff.1 H7.out.2.2.2.2.1).1).trans H7.out.2.2.2.2.1
            have c0 : w11.cell? ⟨X, 0, none⟩ = some (.int .u64 (n : Int)) := cell_of_row _ _ 0 _ _ _ xX
            have c1 : w11.cell? ⟨X, 1, none⟩ = some v2 := cell_of_row _ _ 1 _ _ _ xX
            have c2 : w11.cell? ⟨E, 0, none⟩ = some (.int .u64 (n : Int)) := cell_of_row _ _ 0 _ _ _ xE
            have c3 : w11.cell? ⟨E, 1, none⟩ = some v := cell_of_row _ _ 1 _ _ _ xE
            have f0 := frozen_of_row _ _ 0 _ _ xE
            have f1 := frozen_of_row _ _ 1 _ _ xE
            have kk := setCell_block (setCell_block xE 0 (.int .u64 (n : Int))) 1 v2
            have hk : Kept (fun q => q = E) w11 ((w11.setCell ⟨E, 0, none⟩ (.int .u64 (n : Int))).setCell ⟨E, 1, none⟩ v2) :=
              ((show Kept (fun q => q = E) w11 w11 from Kept.of_below (br w11)).setCell (p := ⟨E, 0, none⟩) rfl _).setCell (p := ⟨E, 1, none⟩) rfl _
            have hEl : E < wr.heap.size := (Array.getElem?_eq_some_iff.1 HW.out.2.1).1
            have hL12 : LogsAt ((w11.setCell ⟨E, 0, none⟩ (.int .u64 (n : Int))).setCell ⟨E, 1, none⟩ v2) v2 I2 := (H7.out.2.2.2.2.2.2.1.below hb11).keep2 hk (fun p m c e he => by
              rcases H7.out.2.2.2.2.2.2.2.1 with rfl | h
              · exact (HW.out.2.2.2.1 p m c e).2.2.1 he
              · have h1 := (h p m c e).1
                have h2 := H5.out.2.1.size
                have h3 := H6.out.2.1.size
                omega)
            have hb12 := hk.out ((H6.out.2.2.1.trans (H7.out.2.2.2.2.2.2.2.2.mono H6.out.2.2.1.size)).trans (hb11.mono (Nat.le_trans H6.out.2.2.1.size H7.out.2.2.2.2.2.2.2.2.size))) (Nat.le_trans (Nat.le_trans H6.out.2.2.1.size H7.out.2.2.2.2.2.2.2.2.size) hb11.size) (fun q hq => by have := HS.out.1 q hq; omega)
            have hA12 : AsmAt ((w11.setCell ⟨E, 0, none⟩ (.int .u64 (n : Int))).setCell ⟨E, 1, none⟩ v2) D M n t2 (pairsI I2) := (H7.out.1.below hb11).kept hk (by omega) (by omega)
            have hf12 : farV D M E ((w11.setCell ⟨E, 0, none⟩ (.int .u64 (n : Int))).setCell ⟨E, 1, none⟩ v2).heap.size v2 := by
              have hz : ((w11.setCell ⟨E, 0, none⟩ (.int .u64 (n : Int))).setCell ⟨E, 1, none⟩ v2).heap.size = w11.heap.size := by simp [World.setCell]
              have h2 := H5.out.2.1.size
              have h3 := H6.out.2.1.size
              have h5 := H7.out.2.2.2.2.2.2.2.2.size
              have h6 := hb11.size
              intro p m c e
              rw [hz]
              rcases H7.out.2.2.2.2.2.2.2.1 with rfl | h
              · have := HW.out.2.2.2.1 p m c e
                exact ⟨this.1, this.2.1, this.2.2.1, by omega⟩
              · have h1 := h p m c e
                have h4 := HW.out.1.lt
                exact ⟨by omega, by omega, by omega, by omega⟩
            obtain ⟨ad2, cap2, rfl⟩ : ∃ ad2 cap2, v2 = .slice ad2 I2.length cap2 := by
              obtain ⟨q1, q2, e, _⟩ := hL12
              exact ⟨q1, q2, e⟩
            have HZ := Lib.hid (And.intro hA12 (And.intro kk (And.intro hL12 (And.intro hf12 hb12))))
            clear hA12 kk hL12 hf12 hb12 hk hb11 xE xX hEl
            go_wp2
            refine ⟨⟨k + 1, _, by omega, by go_num, ?_, HZ.out.2.1, ?_, HZ.out.2.2.2.1, HZ.out.2.2.2.2⟩, by simp [intOf]; omega⟩
            · rw [HE1.out]
              exact HZ.out.1
            · rw [HE1.out]
              exact HZ.out.2.2.1
        · have hbool : decide ((k : Int) < (l.length : Int)) = false := by simpa using hlt
          go_wp2
          go_ret
          exact ⟨rfl, hbr⟩
end Go.Proofs.Ytilijegipjpdlaa
