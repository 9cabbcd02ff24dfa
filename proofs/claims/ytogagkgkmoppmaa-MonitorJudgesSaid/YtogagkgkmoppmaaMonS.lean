/-
  EvSend: send.
  Conditions: those that each theorem names.
-/
import Derived.Test.YtogagkgkmoppmaaMonT
import Derived.Test.YtogagkgkmoppmaaMaskM
namespace Go.Proofs.Ytogagkgkmoppmaa
set_option linter.unusedVariables false
set_option linter.unusedSimpArgs false
open Go.RowKit GM
def place (x : Ev) : PlaceK := ((x.ce : Int), x.cr, x.m.frm, (x.m.seq : Int))
theorem sent_val (M : MM) (k : PlaceK) : (get (vals slV M.sends) k).getD (.slice none 0 0) = slV (sentR M k) := by
  rw [get_vals]
  unfold sentR
  cases get M.sends k <;> rfl
/-- the map of what was sent, and one of its rows -/
def ZS (M : MM) (k : PlaceK) (b : Nat) : Prop := b = M.c.sb ∨ (rowPc (sentR M k)).blk = some b
theorem zs_out {w : World} {B b0 : Nat} {M : MM} {R : List Pc} (h : Own w b0 (parts B M ++ R)) (k : PlaceK) {b : Nat} {cs : Array Value} {t : TypeId} {fr : Nat × Nat} (hb : w.heap[b]? = some (.cells cs t fr)) (ht : t ≠ 34) : ¬ ZS M k b := by
  rintro (e | e)
  · subst e
    obtain ⟨_, es, clock, hm, _⟩ := own_sends h
    rw [hb] at hm
    cases hm
  · obtain ⟨c, fz, hc⟩ := Lib.ownsRow_kind (sent_ok h k).1 b e
    rw [hb] at hc
    injection hc with hc
    injection hc with _ hc _
    exact ht hc
theorem zs_quiet {w : World} {B b0 : Nat} {M : MM} {R : List Pc} (h : Own w b0 (parts B M ++ R)) (k : PlaceK) : Quiet w (ZS M k) := by
  intro b hz cs t fr hb
  constructor
  · rintro rfl
    exact zs_out h k hb (by decide) hz
  · rintro rfl
    exact zs_out h k hb (by decide) hz
/-- what the place of a message, and the message, read as -/
structure SendS (B X KB sb : Nat) (x : Ev) (w : World) : Prop where
  c0 : w.cell? ⟨B, 0, none⟩ = some (.map (some sb))
  k : w.rangeAt KB 0 [.int .u64 (x.ce : Int), .int .i64 x.cr, .int .i64 x.m.frm, .int .u32 (x.m.seq : Int)]
  m : w.rangeAt X 7 (msgA x.m).toList
theorem range_of {w : World} {b o : Nat} {cs : Array Value} {t : TypeId} {fr : Nat × Nat} (h : w.heap[b]? = some (.cells cs t fr)) (l : List Value) (hl : ∀ j u, l[j]? = some u → cs[o + j]? = some u) : w.rangeAt b o l := fun j u hu => (cell_of_row _ _ _ _ _ _ h).trans (hl j u hu)
theorem ev_msg (x : Ev) (j : Nat) (u : Value) (h : (msgA x.m).toList[j]? = some u) : (evA x)[7 + j]? = some u := by
  have hj : j < 6 := by
    have := (List.getElem?_eq_some_iff.1 h).1
    simpa [msgA] using this
  unfold msgA at h
  unfold evA
  rcases j with _ | _ | _ | _ | _ | _ | j
  all_goals first | exact h | omega
def psnd (P : PM) (x : Ev) : PM := if x.proc = x.m.frm then { P with sends := fun k => if k = place x then P.sends (place x) ++ [bare x.m] else P.sends k } else P
def psend (P : PM) (x : Ev) : PM := match pstay (psnd P x) x with
  | none => (psnd P x).br 1 true
  | some k => match (psnd P x).stays[k]? with
    | none => psnd P x
    | some s => (psnd P x).br 1 s.tr.isSome
theorem proj_sends (M : MM) (k : PlaceK) : (proj M).sends k = (sentR M k).l.map bare := by
  unfold sentR
  simp only [proj]
  cases get M.sends k <;> rfl
theorem proj_sent (M : MM) (x : Ev) (r : SR) (hr : r.l = (sentR M (place x)).l ++ [x.m]) (hp : x.proc = x.m.frm) : proj (M.sent (place x) r) = psnd (proj M) x := by
  unfold psnd
  rw [if_pos hp]
  have h : (proj (M.sent (place x) r)).sends = fun k => if k = place x then (proj M).sends (place x) ++ [bare x.m] else (proj M).sends k := by
    funext k
    rw [proj_sends, sentR_sent]
    split
    · rw [hr, List.map_append, proj_sends]
      rfl
    · rw [proj_sends]
  show proj (M.sent (place x) r) = _
  rw [← h]
  rfl
theorem tr_isSome (x : SX) : (projS x).tr.isSome = x.s.tr.isSome := by
  simp only [projS, trOf]
  cases x.s.tr <;> rfl
theorem evInfo : (Try.prog.info? 39).map (·.size) = some 19 := by kernel_rfl
set_option maxRecDepth 100000 in
set_option maxHeartbeats 16000000 in
theorem send_any (w : World) (B b0 n : Nat) (M : MM) (R : List Pc) (hO : Own w b0 (parts B M ++ R)) (hM : MOk M) (hb0 : b0 ≤ w.heap.size) (hS : Sz n M) (hn : n ≤ 9999) (x : Ev) (hm : MsgT w x.m) :
    Calls Try.prog 17 #[.pointer (some ⟨B, 0, none⟩), .agg (evA x)] w fun e w' => e = .returned (.tuple #[]) ∧ Res w B b0 R (psend (proj M) x) (n + 1) w' := by
  obtain ⟨w1, hw1⟩ : ∃ w1, w1 = w.alloc (.cells (evA x) 39) := ⟨_, rfl⟩
  have hb1 : Below w.heap.size w w1 := by rw [hw1]; exact ba (br w) _
  have hx1 : w1.heap[w.heap.size]? = some (.cells (evA x) 39 (0, 0)) := by rw [hw1]; exact heap_alloc_new w _
  obtain ⟨X, hX⟩ : ∃ X, X = w.heap.size := ⟨_, rfl⟩
  rw [← hX] at hx1
  have N1 : Now w B b0 M (evPc X x :: msgPc x.m :: R) w1 := by
    refine ⟨?_, .of_below hb1, Nat.le_trans hb0 hb1.size⟩
    have h1 := (own_new (msgPc x.m) hO hb0 hb1 (hm.below hb1) (fun _ h => by cases h)).mid1
    exact (own_new (evPc X x) h1 (Nat.le_trans hb0 hb1.size) (br _) hx1 (fun _ h => by cases h)).mid1
  have H1 := Lib.hid N1
  have e1 : w1.cell? ⟨X, 1, none⟩ = some (.int .i64 x.proc) := cell_of_row _ _ 1 _ _ _ hx1
  have e2 : w1.cell? ⟨X, 2, none⟩ = some (.int .u64 (x.ce : Int)) := cell_of_row _ _ 2 _ _ _ hx1
  have e3 : w1.cell? ⟨X, 3, none⟩ = some (.int .i64 x.cr) := cell_of_row _ _ 3 _ _ _ hx1
  have e7 : w1.cell? ⟨X, 7, none⟩ = some (.int .i64 x.m.frm) := cell_of_row _ _ 7 _ _ _ hx1
  have e8 : w1.cell? ⟨X, 8, none⟩ = some (.int .u32 (x.m.seq : Int)) := cell_of_row _ _ 8 _ _ _ hx1
  obtain ⟨cx, hcx⟩ : ∃ cx, cx = evA x := ⟨_, rfl⟩
  have z1 : cx.all (·.oneCell') = true := by rw [hcx]; simp [evA, Value.oneCell']
  have z2 : cx.size = 19 := by rw [hcx]; rfl
  rw [← hcx] at hw1 ⊢
  have HCX := Lib.hid hcx
  have HSZ := Lib.hid (And.intro hM (And.intro hS hn))
  clear hcx N1 hO hb0 hb1 hx1 hm hM hS hn
  go_enter Try.func17, Try.ntmps17
  go_upto_region 1 with (fail)
  rw [← hw1, ← hX]
  clear hw1 hX z1 z2
  go_upto_if 11 with (fail)
  go_cut [4] (fun s4 wx => ∃ M', Now w B b0 M' (evPc X x :: msgPc x.m :: R) wx ∧ (if x.proc = x.m.frm then ∃ r, r.l = (sentR M (place x)).l ++ [x.m] ∧ M' = M.sent (place x) r else M' = M))
  case first =>
    by_cases hp : x.proc = x.m.frm
    · have hp1 : (x.proc == x.m.frm) = true := by simpa using hp
      have HP := Lib.hid hp
      clear hp
      go_upto_region 3 with (fail)
      obtain ⟨w2, hw2⟩ : ∃ w2, w2 = w1.alloc (.cells #[.int .u64 (x.ce : Int), .int .i64 x.cr, .int .i64 x.m.frm, .int .u32 (x.m.seq : Int)] 69) := ⟨_, rfl⟩
      obtain ⟨KB, hKB⟩ : ∃ KB, KB = w1.heap.size := ⟨_, rfl⟩
      have hk2 : w2.heap[KB]? = some (.cells #[.int .u64 (x.ce : Int), .int .i64 x.cr, .int .i64 x.m.frm, .int .u32 (x.m.seq : Int)] 69 (0, 0)) := by rw [hw2, hKB]; exact heap_alloc_new w1 _
      have N2 : Now w B b0 M (evPc X x :: msgPc x.m :: R) w2 := H1.out.below (by rw [hw2]; exact ba (br w1) _)
      rw [← hw2, ← hKB]
      clear hw2 hKB e1 e2 e3 e7 e8 H1
      have hev : EvAt w2 X x := own_r N2.own (p := evPc X x) (by simp)
      have hmon := own_mon N2.own
      have HS := Lib.hid (show ∀ w', Kept (ZS M (place x)) w2 w' → SendS B X KB M.c.sb x w' from fun w' hk => by
        have g1 := hk.keep hev (zs_out N2.own _ hev (by decide))
        have g2 := hk.keep hk2 (zs_out N2.own _ hk2 (by decide))
        have g3 := hk.keep hmon (zs_out N2.own _ hmon (by decide))
        exact ⟨cell_of_row _ _ 0 _ _ _ g3, range_of g2 _ (fun j u hu => by simpa using hu), range_of g1 _ (fun j u hu => ev_msg x j u hu)⟩)
      clear hev hmon hk2
      have hS0 := HS.out _ ((Kept.refl (ZS M (place x)) w2).drew)
      have H2 := Lib.hid N2
      have HW := Lib.hid (show Below w2.heap.size w2 w2.drew from (br w2).drew)
      have H3 := Lib.hid (show Kept (ZS M (place x)) w2 w2.drew from (Kept.refl _ _).drew)
      clear N2
      refine wp_region_mask (SendS B X KB M.c.sb x) 13 6 [true, true, true, true, true, true, true, true, false, false, false, false, false, false] #[true, true, true, true, true, true, true, true, false, false, false, false, false, false] (by kernel_rfl) (by kernel_rfl) (by kernel_rfl) hS0 ?_
      clear hS0
      generalize w2.drew = W at *
      iterate 5
        refine wpMask_take _ (Or.inl ⟨by rfl, fun w' hS => by have h0 := hS.c0; clear hS; go_simp; try with_reducible rfl⟩) ?_
        simp only [Act.put, List.setIfInBounds_toArray, List.set_cons_zero, List.set_cons_succ]
      refine wpMask_take _ (yieldsIf_load_mid (by rfl) 69 (.tmp 4) rfl KB 0 rfl [.int .u64 (x.ce : Int), .int .i64 x.cr, .int .i64 x.m.frm, .int .u32 (x.m.seq : Int)] _ (fun w' hS => hS.k) Try.underlying69 rfl (by kernel_rfl)) ?_
      simp only [Act.put, List.setIfInBounds_toArray, List.set_cons_zero, List.set_cons_succ]
      refine wpMask_take _ (Or.inl ⟨by rfl, fun w' hS => by clear hS; go_simp; try with_reducible rfl⟩) ?_
      simp only [Act.put, List.setIfInBounds_toArray, List.set_cons_zero, List.set_cons_succ]
      refine wpMask_take _ (yieldsIf_load_mid (by rfl) 34 (.tmp 28) rfl X 7 rfl (msgA x.m).toList _ (fun w' hS => hS.m) Try.underlying34 rfl (by kernel_rfl)) ?_
      simp only [Act.put, List.setIfInBounds_toArray, List.set_cons_zero, List.set_cons_succ]
      refine wpMask_skip (wpMask_skip (wpMask_skip (wpMask_skip (wpMask_skip (wpMask_skip (wpMask_nil ?_))))))
      obtain ⟨i0, hi, hz0, hz1, hz2⟩ := info_parts info34
      refine wpAnyS_ready (rs := [8]) (by kernel_rfl) (by simp) ?_
      refine AllReadyS.cons rfl (fun K hK => ?_) AllReadyS.nil
      refine step_buildSlice_row rfl 61 (.tmp 29) rfl 34 i0 _ Try.underlying61 hi hz0 (msgA x.m).toList.toArray rfl (by rw [hz1]; rfl) (by simp [msgA]) (by simp [msgA]) ?_
      have hK8 := H3.out.alloc (.cells (msgA x.m).toList.toArray 34)
      refine hK.out _ _ (fun _ => HS.out _ hK8) ?_
      clear hK K
      simp only [Act.put, List.setIfInBounds_toArray, List.set_cons_zero, List.set_cons_succ]
      have N8 := H2.out.below (ba HW.out (.cells (msgA x.m).toList.toArray 34))
      have hown8 := ownOne W 0 34 (msgA x.m).toList.toArray 6 rfl (Nat.zero_le _)
      generalize hw8 : W.alloc (.cells (msgA x.m).toList.toArray 34) = w8 at *
      obtain ⟨c, w9, hrun, hgr9, hsz9, hmap9, hfin⟩ := (own_sends N8.own).entry (P := Try.prog) Try.underlying45 placeLaw (z := .slice none 0 0) (by kernel_rfl) (place x)
      rw [sent_val] at hrun
      have hsz8 : W.heap.size < w8.heap.size := by rw [← hw8]; simp
      have hr8 := sent_ok N8.own (place x)
      have hsb8 := own_sends N8.own
      have hK89 := Kept.of_grown hgr9
      have hK9 := hK8.trans (hK89.more (fun k _ e => Or.inl e))
      have hq9 : Quiet w8 (fun b => b = M.c.sb) := fun b hb => zs_quiet N8.own (place x) b (.inl hb)
      have hr9 : RowOk w9 (sentR M (place x)) := (rowPc (sentR M (place x))).keep w8 w9 _ hr8 hK89 (fun b e hb => map_ne_row hsb8 hr8 (hb ▸ e)) hq9
      have hown9 := own_keptS hown8 hK89 (fun b e hb => by
        have e : W.heap.size = b := by simpa [Value.ownBlock] using e
        obtain ⟨_, es, clock, hb', _⟩ := hsb8
        have h2 := heap_alloc_new W (.cells (msgA x.m).toList.toArray 34)
        rw [hw8, e, hb, hb'] at h2
        cases h2)
      have hll : (sentR M (place x)).l.length ≤ 9999 := Nat.le_trans (HSZ.out.2.1.sent _) HSZ.out.2.2
      have H9 := Lib.hid (And.intro N8 (And.intro hK9 (And.intro hr9 (And.intro hsb8 (And.intro hr8 hll)))))
      have HF := Lib.hid (And.intro hmap9 hfin)
      obtain ⟨r, hr⟩ : ∃ r, r = sentR M (place x) := ⟨_, rfl⟩
      have hrun : (Instr.mapEntry 45 (.map (some M.c.sb)) (.agg #[.int .u64 (x.ce : Int), .int .i64 x.cr, .int .i64 x.m.frm, .int .u32 (x.m.seq : Int)])).run Try.prog w8 = .ok (.tuple #[.slice r.ad r.l.length r.cap, .int .i64 (c : Int)]) w9 := by rw [hr]; exact hrun
      rw [← hr] at H9 hll
      have HO9 := Lib.hid hown9
      have HRR := Lib.hid hr
      clear N8 hgr9 hsz9 hmap9 hfin hr8 hsb8 hK89 hK9 hq9 hr9 hown8 hown9 hr hw8 hK8
      refine wpAnyS_ready (rs := [9]) (by kernel_rfl) (by simp) ?_
      refine AllReadyS.cons rfl (fun K hK => ?_) AllReadyS.nil
      go_simp
      refine hK.out _ _ (fun _ => HS.out _ H9.out.2.1) ?_
      clear hK K hrun
      simp only [Act.put, List.setIfInBounds_toArray, List.set_cons_zero, List.set_cons_succ]
      refine wpAnyS_take (i := 12) (.int .i64 (c : Int)) rfl (by kernel_rfl) (Or.inl ⟨by rfl, fun w' hS => by clear hS; go_simp⟩) (HS.out _ H9.out.2.1) ?_
      simp only [Act.put, List.getElem_toArray, List.getElem_cons_succ, List.getElem_cons_zero, List.setIfInBounds_toArray, List.set_cons_zero, List.set_cons_succ]
      refine wpAnyS_take (i := 10) (.slice r.ad r.l.length r.cap) rfl (by kernel_rfl) (Or.inl ⟨by rfl, fun w' hS => by clear hS; go_simp⟩) (HS.out _ H9.out.2.1) ?_
      simp only [Act.put, List.getElem_toArray, List.getElem_cons_succ, List.getElem_cons_zero, List.setIfInBounds_toArray, List.set_cons_zero, List.set_cons_succ]
      refine wpAnyS_ready (rs := [11]) (by kernel_rfl) (by simp) ?_
      refine AllReadyS.cons rfl (fun K hK => ?_) AllReadyS.nil
      refine step_append_any _ rfl (.tmp 27) (.tmp 30) 61 rfl 0 34 i0 _ 6 72 Try.underlying61 hi hz0 hz1 hz2 rfl (by decide) _ r.l.length (rowsM r.l) rfl H9.out.2.2.1.1 _ _ 1 1 (msgA x.m).toList rfl (Reads.of_own HO9.out) (msgA_one x.m) (by unfold maxLen; omega) (by omega) (Nat.zero_le _) ?_
      intro v' w11 ho11 hg11 hu11
      have hblk : (rowPc (sentR M (place x))).blk = (Value.slice r.ad r.l.length r.cap).ownBlock := by rw [← HRR.out]; rfl
      have hK11 : Kept (ZS M (place x)) w2 w11 := H9.out.2.1.trans ((Kept.of_grown' hg11).more fun k _ e => by
        obtain ⟨b, hb, rfl⟩ := e
        right
        rw [hblk]
        exact hb)
      refine hK.out _ _ (fun _ => HS.out _ hK11) ?_
      clear hK K
      simp only [Act.put, List.getElem_toArray, List.getElem_cons_succ, List.getElem_cons_zero, List.setIfInBounds_toArray, List.set_cons_zero, List.set_cons_succ]
      have hg11 : w9.grownBy w11 (Value.slice r.ad r.l.length r.cap).ownBlock := hg11
      have hu11 : v'.ownBlock = (Value.slice r.ad r.l.length r.cap).ownBlock ∨ v'.ownBlock = some w9.heap.size := hu11
      obtain ⟨ad', cap', rfl⟩ := ownForm ho11
      have hsbne : ∀ b, (Value.slice r.ad r.l.length r.cap).ownBlock = some b → b ≠ M.c.sb := fun b e hb => map_ne_row H9.out.2.2.2.1 H9.out.2.2.2.2.1 (hb ▸ e)
      have hsb11 : w11.heap[M.c.sb]? = w9.heap[M.c.sb]? := by
        obtain ⟨es, clock, hb⟩ := HF.out.1
        refine hg11.block _ ((Array.getElem?_eq_some_iff.1 hb).1) (fun e => hsbne _ e.symm rfl)
      obtain ⟨w13, hrun, hmap13, hgr13, hsz13⟩ := HF.out.2 w11 hsb11 (.slice ad' (r.l.length + 1) cap')
      have hll' : (r.l ++ [x.m]).length = r.l.length + 1 := by simp
      have hK13 : Kept (ZS M (place x)) w2 w13 := hK11.trans ((Kept.of_grown hgr13).more (fun k _ e => Or.inl e))
      have hE : ∃ r', r'.l = (sentR M (place x)).l ++ [x.m] ∧ Now w B b0 (M.sent (place x) r') (evPc X x :: msgPc x.m :: R) w13 := by
        refine ⟨⟨(sentR M (place x)).l ++ [x.m], ad', cap'⟩, rfl, ?_⟩
        have hrow : RowOk w13 ⟨(sentR M (place x)).l ++ [x.m], ad', cap'⟩ := by
          rw [← HRR.out]
          refine ⟨?_, fun m hm => ?_⟩
          · show w13.ownsRow 0 34 6 (.slice ad' (r.l ++ [x.m]).length cap') (r.l ++ [x.m]).length (rowsM (r.l ++ [x.m]))
            rw [hll', rowsM_snoc]
            refine own_keptS ho11 (Kept.of_grown hgr13) (fun b e hb => ?_)
            rcases hu11 with h | h
            · exact hsbne b (h ▸ e) hb
            · rw [h] at e
              injection e with e
              obtain ⟨es, clock, hb'⟩ := HF.out.1
              have := (Array.getElem?_eq_some_iff.1 hb').1
              omega
          · have hmt : MsgT w2 m := by
              rcases List.mem_append.1 hm with hm | hm
              · exact (sent_ok H2.out.own (place x)).2 m (HRR.out ▸ hm)
              · rw [List.mem_singleton.1 hm]
                exact own_r H2.out.own (p := msgPc x.m) (by simp)
            exact hmt.quiet hK13 (zs_quiet H2.out.own _)
        have hmp : GMap placeV w13 M.c.sb (vals slV (put M.sends (place x) ⟨(sentR M (place x)).l ++ [x.m], ad', cap'⟩)) := by
          rw [← put_vals slV]
          rw [← HRR.out]
          show GMap placeV w13 M.c.sb (put (vals slV M.sends) (place x) (.slice ad' (r.l ++ [x.m]).length cap'))
          rw [hll']
          exact hmap13
        have hO := own_send H2.out.own H2.out.low hK13 hmp hrow (fun b e => by
          have e : (Value.slice ad' ((sentR M (place x)).l ++ [x.m]).length cap').ownBlock = some b := e
          rw [← HRR.out, hll'] at e
          rcases hu11 with h | h
          · left
            rw [hblk, ← h]
            exact e
          · right
            rw [h] at e
            injection e with e
            have := H9.out.2.1.size
            omega)
        exact H2.out.next hO.1 hO.2
      have HE := Lib.hid hE
      clear hE hK13 hmap13 hgr13 hsz13 hsb11 hsbne hg11 hu11 ho11 hK11 hblk hll' HF HO9 hi hz0 hz1 hz2
      have hrun : (Instr.entryStore 45 (.map (some M.c.sb)) (.int .i64 (c : Int)) (.slice ad' (r.l.length + 1) cap')).run Try.prog w11 = .ok () w13 := hrun
      refine wpAnyS_ready (rs := [13]) (by kernel_rfl) (by simp) ?_
      refine AllReadyS.cons rfl (fun K hK => ?_) AllReadyS.nil
      go_simp
      refine hK.out _ _ (fun h => absurd h (by omega)) ?_
      clear hK K hrun
      simp only [Act.put, List.getElem_toArray, List.getElem_cons_succ, List.getElem_cons_zero, List.setIfInBounds_toArray, List.set_cons_zero, List.set_cons_succ]
      refine wpAnyS_done (by kernel_rfl) ?_ _
      go_wp2_with fail
      go_meet
      obtain ⟨r', h1, h2⟩ := HE.out
      exact ⟨_, h2, by rw [if_pos HP.out]; exact ⟨r', h1, rfl⟩⟩
    · have hp1 : (x.proc == x.m.frm) = false := by simpa using hp
      have HP := Lib.hid hp
      clear hp
      go_wp2_with fail
      go_meet
      exact ⟨M, H1.out, by rw [if_neg HP.out]⟩
  case rest =>
  obtain ⟨M', hN, hM'⟩ := hcut
  have hst : M'.stays = M.stays ∧ M'.now = M.now ∧ M'.c = M.c ∧ proj M' = psnd (proj M) x ∧ Sz (n + 1) M' := by
    by_cases hp : x.proc = x.m.frm
    · rw [if_pos hp] at hM'
      obtain ⟨r, hr, rfl⟩ := hM'
      refine ⟨rfl, rfl, rfl, proj_sent M x r hr hp, (HSZ.out.2.1.more (Nat.le_succ n)).stays, (HSZ.out.2.1.more (Nat.le_succ n)).rows, (HSZ.out.2.1.more (Nat.le_succ n)).cnt, fun k => ?_⟩
      rw [sentR_sent]
      split
      · rw [hr, List.length_append, List.length_singleton]
        have := HSZ.out.2.1.sent (place x)
        omega
      · exact Nat.le_succ_of_le (HSZ.out.2.1.sent k)
    · rw [if_neg hp] at hM'
      subst hM'
      refine ⟨rfl, rfl, rfl, ?_, HSZ.out.2.1.more (Nat.le_succ n)⟩
      unfold psnd
      rw [if_neg hp]
  have hMo : MOk M' := ⟨by rw [hst.1, hst.2.2.1]; exact HSZ.out.1.n, by rw [hst.1, hst.2.1]; exact HSZ.out.1.now⟩
  have HN := Lib.hid hN
  have HP := Lib.hid (And.intro hMo hst.2.2.2)
  have hev : EvAt wc X x := own_r hN.own (p := evPc X x) (by simp)
  have hev : wc.heap[X]? = some (.cells cx 39 (0, 0)) := by rw [HCX.out]; exact hev
  have hinf : (Try.prog.info? 39).map (·.size) = some cx.size := by rw [HCX.out]; exact evInfo
  have HX := Lib.hid hev
  have HI := Lib.hid hinf
  have hC := stay_any wc B b0 M' (evPc X x :: msgPc x.m :: R) hN.own hMo hN.low x
  rw [← HCX.out] at hC
  have HC := Lib.hid hC
  clear hC hev hinf hM' hst hMo hN e1 e2 e3 e7 e8 H1
  go_wp2_with (first | (with_reducible refine wpList_load_row rfl 39 (.tmp 3) rfl X rfl 39 cx (0, 0) _ HX.out Try.underlying39 rfl HI.out ?_) | fail)
  refine HC.out.mono ?_
  clear HC HX HI
  intro e w4 h
  rcases h with ⟨k, hk, hs, rfl, hb⟩ | ⟨hs, rfl, hO, hK⟩
  · have N4 := HN.out.below hb
    have hSo := own_stay N4.own (List.getElem_mem hk)
    have hps : psend (proj M) x = (proj M').br 1 M'.stays[k].s.tr.isSome := by
      unfold psend
      rw [← HP.out.2.1, ← stayOf_proj, hs]
      simp only [show (proj M').stays[k]? = some (projS M'.stays[k]) from by simp [proj, hk], tr_isSome]
    have HBR := Lib.hid (Now.breaks (M := M') (z := M'.c.broken) N4 1)
    have HPS := Lib.hid hps
    have t7 := at0 (scell hSo 7 (v := .pointer (M'.stays[k].s.tr.map fun b => ⟨b, 0, none⟩)) rfl)
    clear hs hps hSo N4
    unfold ptrV
    cases htr : M'.stays[k].s.tr with
    | none =>
      rw [htr] at t7 HPS
      simp only [Option.map_none, Option.isSome_none] at t7 HPS
      have HE := Lib.hid (HBR.out w4 (br _) false)
      clear htr HBR
      go_wp2_with fail
      refine HE.out.mono ?_
      rintro e w5 ⟨rfl, hE⟩
      have HF := Lib.hid (show Res w B b0 R (psend (proj M) x) (n + 1) w5 from ⟨_, hE.next (hE.own.drop (Q := [evPc X x, msgPc x.m])) (.refl _ _), bz_ok HP.out.1 _, ⟨HP.out.2.2.stays, HP.out.2.2.rows, HP.out.2.2.cnt, HP.out.2.2.sent⟩, HPS.out.symm⟩)
      clear hE HE t7
      go_wp2_with fail
      go_end0
      exact ⟨rfl, HF.out⟩
    | some tb =>
      rw [htr] at t7 HPS
      simp only [Option.map_some, Option.isSome_some] at t7 HPS
      have HE := Lib.hid (HBR.out w4 (br _) true)
      clear htr HBR
      go_wp2_with fail
      refine HE.out.mono ?_
      rintro e w5 ⟨rfl, hE⟩
      have HF := Lib.hid (show Res w B b0 R (psend (proj M) x) (n + 1) w5 from ⟨_, hE.next (hE.own.drop (Q := [evPc X x, msgPc x.m])) (.refl _ _), bz_ok HP.out.1 _, ⟨HP.out.2.2.stays, HP.out.2.2.rows, HP.out.2.2.cnt, HP.out.2.2.sent⟩, HPS.out.symm⟩)
      clear hE HE t7
      go_wp2_with fail
      go_end0
      exact ⟨rfl, HF.out⟩
  · have hps : psend (proj M) x = (proj M').br 1 true := by
      unfold psend
      rw [← HP.out.2.1, ← stayOf_proj, hs]
    have HF := Lib.hid (show Res w B b0 R (psend (proj M) x) (n + 1) w4 from ⟨_, HN.out.next (hO.drop (Q := [evPc X x, msgPc x.m])) hK, br_ok HP.out.1 _ _, ⟨HP.out.2.2.stays, HP.out.2.2.rows, HP.out.2.2.cnt, HP.out.2.2.sent⟩, hps.symm⟩)
    clear hs hps hO hK
    go_wp2_with fail
    go_end0
    exact ⟨rfl, HF.out⟩
end Go.Proofs.Ytogagkgkmoppmaa
