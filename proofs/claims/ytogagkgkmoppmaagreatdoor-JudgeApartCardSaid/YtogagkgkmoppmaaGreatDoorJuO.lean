/-
  The judge: of how many EvSend a delivery stands behind.
  Conditions: those that each theorem names.
-/
import Derived.Test.YtogagkgkmoppmaaGreatDoorJuN
namespace Go.Proofs.YtogagkgkmoppmaaGreatDoor
set_option linter.unusedVariables false
set_option linter.unusedSimpArgs false
open Go.RowKit GM
theorem infoI : (Tryz.prog.info? 3).map (fun i => (i.zero, i.size, i.bytes)) = some (some (.int .i64 0), 1, 8) := by kernel_rfl
theorem evInfoJ : (Tryz.prog.info? 36).map (·.size) = some 19 := by kernel_rfl
def zEv : Array Value := #[.int .i64 0, .int .i64 0, .int .u64 0, .int .i64 0, .int .u64 0, .int .i64 0, .int .u64 0, .int .i64 0, .int .u32 0, .int .u64 0, .int .i64 0, .slice none 0 0, .string ⟨#[]⟩, .int .u64 0, .int .u64 0, .int .i64 0, .int .u64 0, .slice none 0 0, .string ⟨#[]⟩]
def keyS (x : Ev) : Array Value := #[.int .u64 (x.ce : Int), .int .i64 x.cr, .int .i64 x.m.frm, .int .u32 (x.m.seq : Int)]
theorem keyS_is (x : Ev) : placeV (place x) = .agg (keyS x) := rfl
theorem row_at {w : World} {r : IR} (h : (irP r).ok w) {q : Nat} (hq : q < r.l.length) : ∃ b, r.ad = some ⟨b, 0, none⟩ ∧ b < w.heap.size ∧ w.cell? ⟨b, q, none⟩ = some (.int .i64 (r.l[q] : Int)) := by
  have hp : w.ownsRow 0 3 1 (.slice r.ad r.l.length r.cap) r.l.length (intsN r.l) := h
  obtain ⟨b, c, hv, hg0, hg1⟩ := hp.form (by omega)
  injection hv with e1 e2 e3
  refine ⟨b, e1, hg1, ?_⟩
  have := hp.cells (g := b) (by rw [e1]; rfl) q (.int .i64 (r.l[q] : Int)) (by simp [intsN, hq])
  rw [show (⟨b, 0, none⟩ : Addr).add q = ⟨b, q, none⟩ from by unfold Addr.add; split <;> simp_all] at this
  exact this
theorem behind1_other {l : List Ev} {t : J} {i : Nat} {x : Ev} (hx : l[i]? = some x) (h : isSend x = false) (h2 : ¬ x.kind = 2) : t.behind1 l i = t := by
  unfold J.behind1
  simp only [hx, h, if_neg h2]
  rfl
theorem sentL_other {l : List Ev} {i : Nat} {x : Ev} (hx : l[i]? = some x) (h : isSend x = false) (k : PlaceK) : sentL l (i + 1) k = sentL l i k := by
  rw [sentL_succ]
  unfold sentAt
  simp only [hx, h, Bool.false_and]
  simp
theorem sentL_send {l : List Ev} {i : Nat} {x : Ev} (hx : l[i]? = some x) (h : isSend x = true) (k : PlaceK) : sentL l (i + 1) k = if k = place x then sentL l i k ++ [i] else sentL l i k := by
  rw [sentL_succ]
  unfold sentAt
  simp only [hx, h, Bool.true_and]
  by_cases e : place x = k
  · simp [e]
  · rw [if_neg (by simpa using e), if_neg (fun h => e h.symm)]
    simp
/-- how many of the first q alike -/
def alikeN (l : List Ev) (x : Ev) (L : List Nat) (q : Nat) : Nat := ((L.take q).filter fun j => sameM (evMsg l j) x.m).length
theorem alikeN_succ (l : List Ev) (x : Ev) {L : List Nat} {q : Nat} (hq : q < L.length) : alikeN l x L (q + 1) = alikeN l x L q + (if sameM (evMsg l L[q]) x.m = true then 1 else 0) := by
  unfold alikeN
  rw [List.take_succ_eq_append_getElem hq, List.filter_append, List.length_append, List.filter_cons, List.filter_nil]
  split <;> rfl
theorem alikeN_le (l : List Ev) (x : Ev) (L : List Nat) (q : Nat) : alikeN l x L q ≤ q := Nat.le_trans (List.length_filter_le _ _) (List.length_take_le _ _)
set_option maxRecDepth 100000 in
set_option maxHeartbeats 16000000 in
theorem behind_any {wB w : World} {g o N : Nat} {l : List Ev} {nm : Nat → List NameK} {R : List Pc} {H : JH} {t : J} (h : JTo wB g o l R N H t w) (hT : Tr wB g o l nm) (hl : l.length ≤ 5000) :
    Calls Tryz.prog 11 #[.pointer (some ⟨H.T, 0, none⟩)] w fun e w' => e = .returned (.tuple #[]) ∧ JTo wB g o l R N H (t.behind l l.length) w' := by
  obtain ⟨hll, hla, _⟩ := h.trace
  obtain ⟨n, hn⟩ : ∃ n, n = l.length := ⟨_, rfl⟩
  obtain ⟨sb, hsb⟩ : ∃ b, b = w.heap.size := ⟨_, rfl⟩
  obtain ⟨w1, hw1⟩ : ∃ w1, w1 = w.alloc (.map #[] 0) := ⟨_, rfl⟩
  have h0 : JSd wB g o l R N H sb (sentL l 0) t w1 := by
    refine ⟨[], fun k => rfl, ?_⟩
    refine h.new (w' := w1) (mapS sb []) (by rw [hw1]; exact ba (br w) _) ?_ (fun b e => by injection e with e; rw [← e, hsb]; exact Nat.le_refl _)
    rw [hw1, hsb]
    exact GMap.made placeV w
  have c0 : w1.cell? ⟨H.T, 0, none⟩ = some (.slice H.la n H.lc) := by
    obtain ⟨L, _, hJ⟩ := h0
    rw [hJ.trace.2.2 ⟨w1, br w1⟩, hll, hn]
  obtain ⟨TT, hTT⟩ : ∃ T, T = H.T := ⟨_, rfl⟩
  rw [← hTT] at c0 ⊢
  have HH := Lib.hid (And.intro hT (And.intro hl (And.intro hla (And.intro hn hTT))))
  have H0 := Lib.hid h0
  have hn9 : n ≤ 5000 := by rw [hn]; exact hl
  have hmm := @run_makeMap Tryz.prog
  clear h hT hl hla hll hn hTT h0
  rw [← HH.out.2.2.2.1]
  obtain ⟨la, hla⟩ : ∃ a, a = H.la := ⟨_, rfl⟩
  obtain ⟨lc, hlc⟩ : ∃ a, a = H.lc := ⟨_, rfl⟩
  rw [← hla, ← hlc] at c0
  have HLA := Lib.hid (And.intro hla hlc)
  have HLS := Lib.hid (show 0 < l.length → la = some ⟨g, o, none⟩ from fun h => hla.trans (HH.out.2.2.1 h))
  clear hla hlc
  go_enter Tryz.func11, Tryz.ntmps11
  go_upto_region 1 with (fail)
  rw [← hw1, ← hsb]
  clear hw1 hsb hmm
  go_wp2_with fail
  clear c0
  go_loopw [15] (fun i wr => ∃ j : Nat, j ≤ n ∧ i = .int .i64 (j : Int) ∧ Hid (JSd wB g o l R N H sb (sentL l j) (t.behind l j) wr)) (fun i _ => n - (intOf i).toNat)
  case atStart => exact ⟨0, by omega, rfl, H0⟩
  case round =>
    obtain ⟨j, hj, rfl, HW⟩ := hrel
    by_cases hlt : j < n
    · have hd1 : decide ((j : Int) < (n : Int)) = true := by rw [decide_eq_true_eq]; omega
      have hd2 : decide (j < n) = true := by rw [decide_eq_true_eq]; omega
      have hd3 : (j : Int) < (n : Int) := by omega
      have hjl : j < l.length := by rw [← HH.out.2.2.2.1]; exact hlt
      obtain ⟨x, hx⟩ : ∃ x, l[j]? = some x := ⟨_, List.getElem?_eq_getElem hjl⟩
      have hbw : Below wB.heap.size wB wr := by
        obtain ⟨L, _, hJ⟩ := HW.out
        exact hJ.bel
      have hTr := HH.out.1.below hbw
      have hr : wr.rangeAt g (o + j * 19) (evA x).toList := by
        have h := (hTr.ev j hjl).2.1
        rwa [show l[j] = x from by rw [List.getElem?_eq_getElem hjl] at hx; injection hx] at h
      have had := HLS.out (by omega)
      obtain ⟨cx, hcx⟩ : ∃ cx, cx = evA x := ⟨_, rfl⟩
      rw [← hcx] at hr
      have y1 : cx.size = 19 := by rw [hcx]; rfl
      have p1 : cx.all (·.oneCell') = true := by rw [hcx]; simp [evA, Value.oneCell']
      have hc1 : cx.toList.toArray = cx := by simp
      obtain ⟨X, hX⟩ : ∃ X, X = wr.heap.size := ⟨_, rfl⟩
      have hz := heap_alloc_new wr (.cells zEv 36)
      have hbz := ba (br wr) (.cells zEv 36)
      rw [← hX] at hz
      obtain ⟨w2, hw2⟩ : ∃ w2, w2 = (wr.alloc (.cells zEv 36)).setRow X cx := ⟨_, rfl⟩
      have hb2 : Below wr.heap.size wr w2 := by rw [hw2]; exact (kept_setRow' (wr.alloc (.cells zEv 36)) X cx).out hbz hbz.size (fun k hk' e => by omega)
      have hx2 : w2.heap[X]? = some (.cells cx 36 (0, 0)) := by rw [hw2]; exact setRow_heap _ _ _ _ _ _ hz
      have HZ := Lib.hid (And.intro hz hX)
      have HG := Lib.hid (And.intro hr (And.intro y1 (And.intro p1 (And.intro hcx (And.intro hx hlt)))))
      have H2 := Lib.hid (show JSd wB g o l R N H sb (sentL l j) (t.behind l j) w2 from by
        obtain ⟨L, h1, h2⟩ := HW.out
        exact ⟨L, h1, h2.below hb2⟩)
      rw [hcx] at hx2
      have e0 : w2.cell? ⟨X, 0, none⟩ = some (.int .i64 x.kind) := cell_of_row _ _ 0 _ _ _ hx2
      have e1 : w2.cell? ⟨X, 1, none⟩ = some (.int .i64 x.proc) := cell_of_row _ _ 1 _ _ _ hx2
      have e2 : w2.cell? ⟨X, 2, none⟩ = some (.int .u64 (x.ce : Int)) := cell_of_row _ _ 2 _ _ _ hx2
      have e3 : w2.cell? ⟨X, 3, none⟩ = some (.int .i64 x.cr) := cell_of_row _ _ 3 _ _ _ hx2
      have e7 : w2.cell? ⟨X, 7, none⟩ = some (.int .i64 x.m.frm) := cell_of_row _ _ 7 _ _ _ hx2
      have e8 : w2.cell? ⟨X, 8, none⟩ = some (.int .u32 (x.m.seq : Int)) := cell_of_row _ _ 8 _ _ _ hx2
      have HX := Lib.hid hx2
      rw [had]
      clear hr hz hbz hX hx2 y1 p1 hcx hx hlt hjl hTr hbw hb2 HW H0 had
      unfold zEv at hw2 HZ
      go_upto_region 4 with (first
        | (with_reducible refine wpList_load_mid rfl 36 (.tmp 18) rfl g (o + j * 19) rfl cx.toList _ HG.out.1 Tryz.underlying36 rfl (by rw [Array.length_toList, HG.out.2.1]; kernel_rfl) ?_)
        | (refine wpList_store_row rfl 36 (.tmp 4) (.tmp 19) rfl X cx (by rw [HZ.out.2]; rfl) (by rw [← hc1]; rfl) 36 _ HZ.out.1 (by rw [HG.out.2.1]; kernel_rfl) (by rw [HG.out.2.1]; rfl) HG.out.2.2.1 ?_)
        | fail)
      rw [← hw2, ← HZ.out.2]
      clear hw2 hc1 HZ
      -- the place
      obtain ⟨w3, hw3⟩ : ∃ w3, w3 = w2.alloc (.cells #[.int .u64 (x.ce : Int), .int .i64 x.cr, .int .i64 x.m.frm, .int .u32 (x.m.seq : Int)] 73) := ⟨_, rfl⟩
      obtain ⟨KB, hKB⟩ : ∃ KB, KB = w2.heap.size := ⟨_, rfl⟩
      have hb3 : Below w2.heap.size w2 w3 := by rw [hw3]; exact ba (br w2) _
      have hk3 : w3.heap[KB]? = some (.cells #[.int .u64 (x.ce : Int), .int .i64 x.cr, .int .i64 x.m.frm, .int .u32 (x.m.seq : Int)] 73 (0, 0)) := by rw [hw3, hKB]; exact heap_alloc_new w2 _
      have hx3 := (hb3.block _ (Array.getElem?_eq_some_iff.1 HX.out).1).trans HX.out
      have H3 := Lib.hid (show JSd wB g o l R N H sb (sentL l j) (t.behind l j) w3 from by
        obtain ⟨L, h1, h2⟩ := H2.out
        exact ⟨L, h1, h2.below hb3⟩)
      go_upto_region 5 with (fail)
      rw [← hw3, ← hKB]
      clear hw3 hKB hb3 e0 e1 e2 e3 e7 e8 H2
      have e0 : w3.cell? ⟨X, 0, none⟩ = some (.int .i64 x.kind) := cell_of_row _ _ 0 _ _ _ hx3
      have e1 : w3.cell? ⟨X, 1, none⟩ = some (.int .i64 x.proc) := cell_of_row _ _ 1 _ _ _ hx3
      have e7 : w3.cell? ⟨X, 7, none⟩ = some (.int .i64 x.m.frm) := cell_of_row _ _ 7 _ _ _ hx3
      have HX3 := Lib.hid (And.intro hx3 hk3)
      clear hx3 hk3 HX
      by_cases hs : isSend x = true
      · have hs1 : x.kind = 1 ∧ x.proc = x.m.frm := by simpa [isSend] using hs
        have HS := Lib.hid hs
        rw [hs1.1] at e0
        rw [hs1.2] at e1
        clear hs hs1
        obtain ⟨L, hP, M, hA, hJ, hpj, hMH⟩ := H3.out
        have hO3 : Own w3 wB.heap.size (sendP sb L ++ (jparts g o l M ++ R)) := hA.own.perm (jp_comm _ _ R)
        obtain ⟨w4, hw4⟩ : ∃ w4, w4 = w3.alloc (.cells #[.int .i64 (j : Int)] 3) := ⟨_, rfl⟩
        have hb4 : Below w3.heap.size w3 w4 := by rw [hw4]; exact ba (br w3) _
        have hA4 := hA.below hb4
        have hO4 : Own w4 wB.heap.size (sendP sb L ++ (jparts g o l M ++ R)) := hO3.below hb4
        have hown4 := ownOne w3 0 3 #[.int .i64 (j : Int)] 1 rfl (Nat.zero_le _)
        rw [← hw4] at hown4
        obtain ⟨c, w5, hrun, hgr5, hsz5, hmap5, hfin⟩ := (sendP_map hO4).entry (P := Tryz.prog) Tryz.underlying71 placeLawJ (z := .slice none 0 0) (by kernel_rfl) (place x)
        rw [rowI_val] at hrun
        obtain ⟨r, hr⟩ : ∃ r, r = rowI L (place x) := ⟨_, rfl⟩
        have hr4 := sendP_row hO4 (place x)
        rw [← hr] at hrun hr4
        have hK45 := Kept.of_grown hgr5
        have hr5 : (irP r).ok w5 := by
          have h : w4.ownsRow 0 3 1 (.slice r.ad r.l.length r.cap) r.l.length (intsN r.l) := hr4
          exact own_keptS h hK45 (fun b e hb => map_ne_ir (sendP_map hO4) hr4 (hb ▸ e))
        have hown5 := own_keptS hown4 hK45 (fun b e hb => by
          have e : w3.heap.size = b := by simpa [Value.ownBlock] using e
          obtain ⟨_, es, clock, hb', _⟩ := sendP_map hO4
          have h2 := heap_alloc_new w3 (.cells #[.int .i64 (j : Int)] 3)
          rw [← hw4, e, hb, hb'] at h2
          cases h2)
        have hrl : r.l.length ≤ 5000 := by
          rw [hr, hP]
          unfold sentL
          have := List.length_filter_le (sentAt l (place x)) (List.range j)
          rw [List.length_range] at this
          omega
        have hrun : (Instr.mapEntry 71 (.map (some sb)) (.agg #[.int .u64 (x.ce : Int), .int .i64 x.cr, .int .i64 x.m.frm, .int .u32 (x.m.seq : Int)])).run Tryz.prog w4 = .ok (.tuple #[.slice r.ad r.l.length r.cap, .int .i64 (c : Int)]) w5 := hrun
        have H5 := Lib.hid (And.intro hr5 (And.intro hown5 (And.intro hK45 (And.intro hmap5 hfin))))
        have H4 := Lib.hid (And.intro hO4 (And.intro hr4 (And.intro hr (And.intro hP (And.intro hJ (And.intro hpj (And.intro hMH (And.intro hA4 hsz5))))))))
        have hHR : w5.ownsRow 0 3 1 (.slice r.ad r.l.length r.cap) r.l.length (intsN r.l) := hr5
        have HHR := Lib.hid hHR
        have HR1 := Lib.hid (Reads.of_own hown5)
        clear hr5 hown5 hK45 hmap5 hfin hO4 hr4 hr hP hJ hpj hMH hA4 hHR hO3 hown4 hA hb4 hgr5 hsz5 H3
        obtain ⟨i0, hi, hz0, hz1, hz2⟩ := info_parts infoI
        go_upto_region 6 with (fail)
        rw [hw4] at hrun
        go_wp2_with (first
          | (with_reducible refine wpList_load_row rfl 73 (.tmp 5) rfl KB rfl 73 #[.int .u64 (x.ce : Int), .int .i64 x.cr, .int .i64 x.m.frm, .int .u32 (x.m.seq : Int)] (0, 0) _ HX3.out.2 Tryz.underlying73 rfl (by kernel_rfl) ?_)
          | (at_builtin; refine wpList_append_any _ rfl (.tmp 43) (.tmp 45) 74 rfl 0 3 i0 _ 1 8 Tryz.underlying74 hi hz0 hz1 hz2 rfl (by decide) _ r.l.length _ rfl HHR.out _ _ 1 1 [.int .i64 (j : Int)] rfl HR1.out (by simp [Value.oneCell']) (by unfold maxLen; omega) (by omega) (Nat.zero_le _) ?_)
          | fail)
        clear hrun
        intro v' w6 ho6 hg6 hu6
        obtain ⟨ad', cap', rfl⟩ := ownForm ho6
        have hsbne : ∀ b, (Value.slice r.ad r.l.length r.cap).ownBlock = some b → b ≠ sb := fun b e hb => map_ne_ir (sendP_map H4.out.1) H4.out.2.1 (hb ▸ e)
        have hsb6 : w6.heap[sb]? = w5.heap[sb]? := by
          obtain ⟨es, clock, hb⟩ := H5.out.2.2.2.1
          exact hg6.block _ ((Array.getElem?_eq_some_iff.1 hb).1) (fun e => hsbne _ e.symm rfl)
        obtain ⟨w7, hrun, hmap7, hgr7, hsz7⟩ := H5.out.2.2.2.2 w6 hsb6 (.slice ad' (r.l.length + 1) cap')
        have hll' : (r.l ++ [j]).length = r.l.length + 1 := by simp
        have hblk : (irP (rowI L (place x))).blk = (Value.slice r.ad r.l.length r.cap).ownBlock := by rw [← H4.out.2.2.1]; rfl
        have hK7 : Kept (fun b => b = sb ∨ (irP (rowI L (place x))).blk = some b) w4 w7 := by
          refine ((H5.out.2.2.1.more (fun k _ e => Or.inl e)).trans ((Kept.of_grown' hg6).more fun k _ e => ?_)).trans ((Kept.of_grown hgr7).more (fun k _ e => Or.inl e))
          obtain ⟨b, hb, rfl⟩ := e
          right
          rw [hblk]
          exact hb
        have hrow : (irP ⟨r.l ++ [j], ad', cap'⟩).ok w7 := by
          show w7.ownsRow 0 3 1 (.slice ad' (r.l ++ [j]).length cap') (r.l ++ [j]).length (intsN (r.l ++ [j]))
          rw [hll', show intsN (r.l ++ [j]) = intsN r.l ++ [.int .i64 (j : Int)] from by simp [intsN]]
          refine own_keptS ho6 (Kept.of_grown hgr7) (fun b e hb => ?_)
          rcases hu6 with h | h
          · exact hsbne b (h ▸ e) hb
          · rw [h] at e
            injection e with e
            obtain ⟨es, clock, hb'⟩ := H5.out.2.2.2.1
            have := (Array.getElem?_eq_some_iff.1 hb').1
            omega
        have hmp : GMap placeV w7 sb (vals irV (put L (place x) ⟨r.l ++ [j], ad', cap'⟩)) := by
          rw [← put_vals irV]
          show GMap placeV w7 sb (put (vals irV L) (place x) (.slice ad' (r.l ++ [j]).length cap'))
          rw [hll']
          exact hmap7
        obtain ⟨hO7, hKK⟩ := own_sendI H4.out.1 H4.out.2.2.2.2.2.2.2.1.bel.size hK7 hmp hrow (fun b e => by
          have e : (Value.slice ad' (r.l ++ [j]).length cap').ownBlock = some b := e
          rw [hll'] at e
          rcases hu6 with h | h
          · left
            rw [hblk, ← h]
            exact e
          · right
            rw [h] at e
            injection e with e
            have := H4.out.2.2.2.2.2.2.2.2
            omega)
        have HE := Lib.hid (show JSd wB g o l R N H sb (sentL l (j + 1)) (t.behind l (j + 1)) w7 from by
          refine ⟨put L (place x) ⟨r.l ++ [j], ad', cap'⟩, fun k => ?_, M, H4.out.2.2.2.2.2.2.2.1.next (hO7.perm (jp_comm _ _ R)) hKK, H4.out.2.2.2.2.1, ?_, H4.out.2.2.2.2.2.2.1⟩
          · rw [rowI_put, sentL_send HG.out.2.2.2.2.1 HS.out, H4.out.2.2.1]
            split
            · rename_i hk
              show (rowI L (place x)).l ++ [j] = _
              rw [H4.out.2.2.2.1, hk]
            · exact H4.out.2.2.2.1 k
          · rw [H4.out.2.2.2.2.2.1]
            show _ = (t.behind l j).behind1 l j
            unfold J.behind1
            simp only [HG.out.2.2.2.2.1, HS.out, if_true])
        have hrun : (Instr.entryStore 71 (.map (some sb)) (.int .i64 (c : Int)) (.slice ad' (r.l.length + 1) cap')).run Tryz.prog w6 = .ok () w7 := hrun
        clear hO7 hKK hmp hrow hK7 hblk hll' hmap7 hgr7 hsz7 hsb6 hsbne ho6 hg6 hu6 H4 H5 HHR HR1 hi hz0 hz1 hz2 e0 e1 e7 HX3
        go_wp2_with fail
        exact ⟨⟨j + 1, by have := HG.out.2.2.2.2.2; omega, by go_num, HE⟩, by have := HG.out.2.2.2.2.2; simp [intOf]; omega⟩
      · have hs : isSend x = false := by simpa using hs
        have HS := Lib.hid hs
        by_cases k2 : x.kind = 2
        · rw [k2] at e0
          obtain ⟨L, hP, hJ3⟩ := H3.out
          obtain ⟨r, hr⟩ : ∃ r, r = rowI L (place x) := ⟨_, rfl⟩
          have hl3 : (Instr.lookup 71 (.map (some sb)) (.agg #[.int .u64 (x.ce : Int), .int .i64 x.cr, .int .i64 x.m.frm, .int .u32 (x.m.seq : Int)]) false).run Tryz.prog w3 = .ok (.slice r.ad r.l.length r.cap) w3 := by
            have h := (show GMap placeV w3 sb (vals irV L) from hJ3.part (p := mapS sb L) (by simp [sendP])).lookup (P := Tryz.prog) Tryz.underlying71 placeLawJ (z := .slice none 0 0) (by kernel_rfl) (place x)
            rw [rowI_val, ← hr] at h
            exact h
          have hrp : ∀ W, Below w3.heap.size w3 W → (irP r).ok W := fun W hW => by
            obtain ⟨M, hA, _⟩ := hJ3.below hW
            rw [hr]
            exact sendP_row (hA.own.perm (jp_comm _ _ R)) (place x)
          have hrl : r.l = sentL l j (place x) := by rw [hr, hP]
          have hm9 : r.l.length ≤ 5000 := by
            rw [hrl]
            unfold sentL
            have := List.length_filter_le (sentAt l (place x)) (List.range j)
            rw [List.length_range] at this
            omega
          obtain ⟨m, hm⟩ : ∃ m, m = r.l.length := ⟨_, rfl⟩
          rw [← hm] at hl3 hm9
          have H4 := Lib.hid (And.intro hP (And.intro hJ3 (And.intro hrp (And.intro hrl (And.intro hm k2)))))
          have d21 : ((2 : Int) == 1) = false := by decide
          clear hP hJ3 hrp hrl hm hr H3 hs k2
          go_upto_region 8 with (fail)
          clear e0 e1 e7
          go_wp2_with (first
            | (with_reducible refine wpList_load_row rfl 73 (.tmp 5) rfl KB rfl 73 #[.int .u64 (x.ce : Int), .int .i64 x.cr, .int .i64 x.m.frm, .int .u32 (x.m.seq : Int)] (0, 0) _ HX3.out.2 Tryz.underlying73 rfl (by kernel_rfl) ?_)
            | fail)
          clear hl3 d21
          go_loopw [6, 57] (fun c q wr2 => ∃ k : Nat, k ≤ m ∧ q = .int .i64 (k : Int) ∧ c = .int .i64 (alikeN l x r.l k : Int) ∧ Hid (Below w3.heap.size w3 wr2)) (fun _ q _ => m - (intOf q).toNat)
          case atStart => exact ⟨0, by omega, rfl, rfl, Lib.hid (br w3)⟩
          case round =>
            obtain ⟨k, hk, rfl, rfl, HB⟩ := hrel
            by_cases hkm : k < m
            · have hq1 : decide ((k : Int) < (m : Int)) = true := by rw [decide_eq_true_eq]; omega
              have hq2 : decide (k < m) = true := by rw [decide_eq_true_eq]; omega
              have hq3 : (k : Int) < (m : Int) := by omega
              have hkr : k < r.l.length := by rw [← H4.out.2.2.2.2.1]; exact hkm
              obtain ⟨b, hra, hbl, hcell⟩ := row_at (H4.out.2.2.1 wr HB.out) hkr
              have hJw := H4.out.2.1.below HB.out
              obtain ⟨jj, hjj⟩ : ∃ q, q = r.l[k] := ⟨_, rfl⟩
              have hjjm : jj ∈ sentL l j (place x) := by rw [← H4.out.2.2.2.1, hjj]; exact List.getElem_mem hkr
              have hjlt : jj < j := sentL_lt hjjm
              have hjl : jj < l.length := by have := HH.out.2.2.2.1; omega
              obtain ⟨y, hy⟩ : ∃ y, l[jj]? = some y := ⟨_, List.getElem?_eq_getElem hjl⟩
              have hTr := HH.out.1.below hJw.bel
              have hxw := (HB.out.block _ (Array.getElem?_eq_some_iff.1 HX3.out.1).1).trans HX3.out.1
              have c0 := hJw.trace.2.2
              rw [← hjj] at hcell
              have hal := alikeN_succ l x hkr
              rw [← hjj, evMsg_at hy] at hal
              have hac : alikeN l x r.l k ≤ 5000 := by have := alikeN_le l x r.l k; omega
              obtain ⟨cy, hcy⟩ : ∃ cs, cs = msgA y.m := ⟨_, rfl⟩
              obtain ⟨cm, hcm⟩ : ∃ cs, cs = msgA x.m := ⟨_, rfl⟩
              have y1 : cy.size = 6 := by rw [hcy]; rfl
              have y2 : cm.size = 6 := by rw [hcm]; rfl
              have HSM := Lib.hid (show ∀ W, Below wr.heap.size wr W → Calls Tryz.prog 21 #[.agg cy, .agg cm] W fun e w' => e = .returned (.bool (sameM y.m x.m)) ∧ Below W.heap.size W w' from fun W hW => by
                rw [hcy, hcm]
                exact jsame_any y.m x.m W ((msgR_of (hTr.ok hy)).below hW) ((msgR_of (hTr.ok HG.out.2.2.2.2.1)).below hW))
              have HG1 := Lib.hid (Bel.range (show wr.rangeAt g (o + jj * 19 + 7) cy.toList from by rw [hcy]; exact hTr.msg hy) (hTr.lt hjl))
              have HG2 := Lib.hid (Bel.range (show wr.rangeAt X 7 cm.toList from by rw [hcm]; exact range_of hxw _ (fun j u hu => ev_msg x j u hu)) (Array.getElem?_eq_some_iff.1 hxw).1)
              have HY := Lib.hid (And.intro y1 (And.intro y2 (And.intro hkm (And.intro hal hac))))
              rw [← HH.out.2.2.2.2, hJw.trace.1, ← HH.out.2.2.2.1] at c0
              have hjn : (jj : Int) < (n : Int) := by omega
              rw [hra]
              rw [← HLA.out.1, ← HLA.out.2, HLS.out (by omega)] at c0
              clear hTr hxw hjjm hjlt hjl hy hcy hcm y1 y2 hkm hal hjj hkr hbl hJw hra hac
              go_upto_region 12 with (fail)
              refine wp_region_bel (by kernel_rfl) (by kernel_rfl) ?_
              repeat (first
                | ((with_reducible refine wpQuiet_load_mid rfl 31 (.tmp 67) rfl g (o + jj * 19 + 7) rfl cy.toList _ HG1.out Tryz.underlying31 rfl (by rw [Array.length_toList, HY.out.1]; kernel_rfl) ?_); simp only [Act.put, Array.toArray_toList, List.setIfInBounds_toArray, List.set_cons_zero, List.set_cons_succ])
                | ((with_reducible refine wpQuiet_load_mid rfl 31 (.tmp 69) rfl X 7 rfl cm.toList _ HG2.out Tryz.underlying31 rfl (by rw [Array.length_toList, HY.out.2.1]; kernel_rfl) ?_); simp only [Act.put, Array.toArray_toList, List.setIfInBounds_toArray, List.set_cons_zero, List.set_cons_succ])
                | go_big_quiet_step ((go_at_call 21; exact bel_call (HSM.out _ (Bel.prop _)))))
              refine wpQuiet_nil ?_
              intro w5 hw5
              have HB5 := Lib.hid (bt HB.out (bel_out hw5))
              clear hw5 HSM HG1 HG2 c0 hcell hjn
              obtain ⟨ac, hac⟩ : ∃ q, q = alikeN l x r.l k := ⟨_, rfl⟩
              have hac9 : ac ≤ 5000 := by rw [hac]; exact HY.out.2.2.2.2
              have HAC := Lib.hid hac
              rw [← hac]
              clear hac
              cases hsm : sameM y.m x.m
              · have HE := Lib.hid (show alikeN l x r.l (k + 1) = ac from by rw [HY.out.2.2.2.1, hsm, HAC.out]; rfl)
                clear hsm
                go_wp2_with fail
                exact ⟨⟨k + 1, by have := HY.out.2.2.1; omega, by go_num, by rw [HE.out], HB5⟩, by have := HY.out.2.2.1; simp [intOf]; omega⟩
              · have HE := Lib.hid (show alikeN l x r.l (k + 1) = ac + 1 from by rw [HY.out.2.2.2.1, hsm, HAC.out]; rfl)
                clear hsm
                go_wp2_with fail
                exact ⟨⟨k + 1, by have := HY.out.2.2.1; omega, by go_num, by rw [HE.out]; go_num, HB5⟩, by have := HY.out.2.2.1; simp [intOf]; omega⟩
            · have hq1 : decide ((k : Int) < (m : Int)) = false := by simpa using hkm
              have hq2 : decide (k < m) = false := by simpa using hkm
              have hkm : k = m := by omega
              subst hkm
              have hcn : cntJ l j x = alikeN l x r.l k := by
                unfold cntJ alikeN
                rw [← H4.out.2.2.2.1, H4.out.2.2.2.2.1, List.take_length]
              have hbh : t.behind l (j + 1) = (t.behind l j).br 2 (!((alikeN l x r.l k : Int) == 1)) := by
                show (t.behind l j).behind1 l j = _
                unfold J.behind1
                simp only [HG.out.2.2.2.2.1, HS.out, if_pos H4.out.2.2.2.2.2, hcn, Bool.false_eq_true, if_false]
                congr 2
                rw [Bool.eq_iff_iff]
                simp
                omega
              have HC := Lib.hid ((H4.out.2.1.below HB.out).br1 2 (!((alikeN l x r.l k : Int) == 1)))
              rw [← hbh, ← HH.out.2.2.2.2] at HC
              clear hbh hcn
              generalize alikeN l x r.l k = ac at *
              go_wp2_with fail
              refine HC.out.mono ?_
              rintro e w5 ⟨rfl, hE⟩
              have HE := Lib.hid (show JSd wB g o l R N H sb (sentL l (j + 1)) (t.behind l (j + 1)) w5 from ⟨L, fun k => by rw [H4.out.1, sentL_other HG.out.2.2.2.2.1 HS.out], hE⟩)
              clear hE HC
              go_wp2_with fail
              exact ⟨⟨j + 1, by have := HG.out.2.2.2.2.2; omega, by go_num, HE⟩, by have := HG.out.2.2.2.2.2; simp [intOf]; omega⟩
        · have HE := Lib.hid (show JSd wB g o l R N H sb (sentL l (j + 1)) (t.behind l (j + 1)) w3 from by
            obtain ⟨L, h1, h2⟩ := H3.out
            refine ⟨L, fun k => by rw [h1, sentL_other HG.out.2.2.2.2.1 hs], ?_⟩
            show JTo wB g o l (sendP sb L ++ R) N H ((t.behind l j).behind1 l j) w3
            rw [behind1_other HG.out.2.2.2.2.1 hs k2]
            exact h2)
          by_cases k1 : x.kind = 1
          · have dp : (x.proc == x.m.frm) = false := by
              simp [isSend, k1] at hs
              simpa using hs
            rw [k1] at e0
            have d12 : ((1 : Int) == 2) = false := by decide
            clear hs k1 k2 H3
            generalize x.proc = pr at *
            generalize x.m.frm = fr at *
            go_wp2_with fail
            exact ⟨⟨j + 1, by have := HG.out.2.2.2.2.2; omega, by go_num, HE⟩, by have := HG.out.2.2.2.2.2; simp [intOf]; omega⟩
          · have d1 : (x.kind == 1) = false := by simpa using k1
            have d2 : (x.kind == 2) = false := by simpa using k2
            clear hs k1 k2 H3
            go_wp2_with fail
            exact ⟨⟨j + 1, by have := HG.out.2.2.2.2.2; omega, by go_num, HE⟩, by have := HG.out.2.2.2.2.2; simp [intOf]; omega⟩
    · have hd : decide ((j : Int) < (n : Int)) = false := by simpa using hlt
      have hd2 : decide (j < n) = false := by simpa using hlt
      have HF := Lib.hid (show JTo wB g o l R N H (t.behind l n) wr from by
        obtain ⟨L, _, h2⟩ := HW.out
        rw [show n = j by omega]
        exact h2.drop)
      clear HW H0
      go_wp2_with fail
      go_end0
      exact ⟨rfl, HF.out⟩
end Go.Proofs.YtogagkgkmoppmaaGreatDoor
