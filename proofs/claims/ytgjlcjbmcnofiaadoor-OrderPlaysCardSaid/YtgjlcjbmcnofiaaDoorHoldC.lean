/-
  What hold's Put returns and leaves.
  Conditions: none.
-/
import Derived.Test.YtgjlcjbmcnofiaaDoorHoldB
namespace Go.Proofs.YtgjlcjbmcnofiaaDoor
set_option linter.unusedVariables false
set_option linter.unusedSimpArgs false
open Go.RowKit
set_option maxRecDepth 100000 in
set_option maxHeartbeats 2000000 in
theorem hPut_range (D : Nat) (m : Msg) (w : World) (hp : procB m.frm = false) :
    Calls Tryd.prog 48 #[.pointer (some ⟨D, 0, none⟩), .agg (msgA m)] w fun e w' => e = .returned (.int .i64 1) ∧ Below w.heap.size w w' := by
  obtain ⟨a, b, c, d, ds, f, g, h⟩ := m
  have HP := Lib.hid (fun W => process_any a W)
  rw [hp] at HP
  clear hp
  show Calls Tryd.prog 48 #[.pointer (some ⟨D, 0, none⟩), .agg #[.int .i64 a, .int .u32 (b : Int), .int .u64 (c : Int), .int .i64 d, .slice g ds.length h, .string f]] w _
  have hb := ba (br w) (.cells #[.int .i64 a, .int .u32 (b : Int), .int .u64 (c : Int), .int .i64 d, .slice g ds.length h, .string f] 42)
  have HB := Lib.hid hb
  clear hb
  go_enter Tryd.func48, Tryd.ntmps48
  go_wp2_with fail
  refine (HP.out _).mono ?_
  rintro e w' ⟨rfl, rfl⟩
  go_wp2
  go_ret
  exact ⟨rfl, HB.out⟩
theorem one_len {L : List Msg} (h : L.length = 1) : ∃ x, L = [x] := by
  rcases L with _ | ⟨x, _ | ⟨y, r⟩⟩
  · simp at h
  · exact ⟨x, rfl⟩
  · simp at h
theorem HoldAt.grown {w w' : World} {D : Nat} {lo : Nat → Nat} {R : Nat → List Msg} {V : Nat → Value} (h : HoldAt w D lo R V) {p : Nat} (hp : p < 64) (hg : w.grownBy w' (V p).ownBlock) :
    w'.heap[D]? = some (.cells (holdC lo V) 133 (0, 0)) ∧ (∀ q, q < 64 → q ≠ p → w'.ownsRow 0 42 6 (V q) (R q).length (rowsM (R q))) ∧ ∀ q, q < 64 → ∀ m ∈ R q, FreshM 0 w' m := by
  have hk : Kept (fun k => (V p).ownBlock = some k) w w' := ⟨hg.os, hg.tape, hg.output, hg.size, fun i hi hs => hg.block i hi (fun e => hs e.symm)⟩
  refine ⟨hk.keep h.blk (own_blk_ne (h.own p hp) h.blk (by decide)), fun q hq hne => own_keptS (h.own q hq) hk (fun b hb hc => h.apart q p b hq hp hne hb hc), fun q hq m hm => (h.ok q hq m hm).grown (h.own p hp) hg⟩
theorem HoldAt.put {w w7 w8 : World} {D B : Nat} {lo : Nat → Nat} {R : Nat → List Msg} {V : Nat → Value} {p : Nat} {m' : Msg} {v8 : Value} (h : HoldAt w D lo R V) (hp : p < 64) (hb : Below w.heap.size w w7) (hf : FreshM B w7 m')
    (ho8 : w8.ownsRow 0 42 6 v8 (R p ++ [m']).length (rowsM (R p ++ [m']))) (hg : w7.grownBy w8 (V p).ownBlock) (hu : v8.ownBlock = (V p).ownBlock ∨ v8.ownBlock = some w7.heap.size) :
    HoldAt (w8.setCell ⟨D, 64 + p, none⟩ v8) D lo (upd R p (R p ++ [m'])) (upd V p v8) ∧ Kept (holdS D V) w (w8.setCell ⟨D, 64 + p, none⟩ v8) := by
  have h7 := h.below hb
  obtain ⟨e1, e2, e3⟩ := h7.grown hp hg
  have hk : Kept (fun b => b = D) w8 (w8.setCell ⟨D, 64 + p, none⟩ v8) := (show Kept (fun b => b = D) w8 w8 from .refl _ _).setCell (p := ⟨D, 64 + p, none⟩) rfl _
  have hD : ∀ {e : TypeId} {v : Value} {n s b0 : Nat} {xs : List Value}, w8.ownsRow b0 e s v n xs → e ≠ 133 → ∀ b, v.ownBlock = some b → ¬ b = D := fun ho hne b hb hc => own_blk_ne ho e1 hne (hc ▸ hb)
  refine ⟨⟨?_, fun q hq => ?_, fun q r b hq hr hne hb1 hb2 => ?_, fun q hq m hm => ?_⟩, ?_⟩
  · rw [← holdC_setv lo V hp]
    exact setCell_block e1 (64 + p) v8
  · by_cases hqp : q = p
    · subst hqp
      rw [upd_same, upd_same]
      exact own_keptS ho8 hk (hD ho8 (by decide))
    · rw [upd_ne _ _ hqp, upd_ne _ _ hqp]
      exact own_keptS (e2 q hq hqp) hk (hD (e2 q hq hqp) (by decide))
  · have hlt : ∀ q, q < 64 → ∀ b, (V q).ownBlock = some b → b < w7.heap.size := fun q hq b hb => ((h7.own q hq).lt b hb).2
    by_cases hqp : q = p
    · subst hqp
      rw [upd_same] at hb1
      rw [upd_ne _ _ (Ne.symm hne)] at hb2
      rcases hu with e | e
      · exact h.apart q r b hq hr hne (e ▸ hb1) hb2
      · rw [e] at hb1; injection hb1 with hb1
        have := hlt r hr b hb2
        omega
    · rw [upd_ne _ _ hqp] at hb1
      by_cases hrp : r = p
      · subst hrp
        rw [upd_same] at hb2
        rcases hu with e | e
        · exact h.apart q r b hq hr hne hb1 (e ▸ hb2)
        · rw [e] at hb2; injection hb2 with hb2
          have := hlt q hq b hb1
          omega
      · rw [upd_ne _ _ hrp] at hb2
        exact h.apart q r b hq hr hne hb1 hb2
  · have hall : FreshM 0 w8 m := by
      by_cases hqp : q = p
      · subst hqp
        rw [upd_same] at hm
        rcases List.mem_append.1 hm with h1 | h1
        · exact e3 q hq m h1
        · simp at h1
          rw [h1]
          exact (hf.more (Nat.zero_le _)).grown (h7.own q hq) hg
      · rw [upd_ne _ _ hqp] at hm
        exact e3 q hq m hm
    exact hall.kept hk (hD hall.2 (by decide))
  · refine ((Kept.of_below (S := holdS D V) hb).trans (Kept.more (S := fun k => (V p).ownBlock = some k) ⟨hg.os, hg.tape, hg.output, hg.size, fun i hi hs => hg.block i hi (fun e => hs e.symm)⟩ (fun k _ hk => .inr ⟨p, hp, hk⟩))).trans (hk.more fun k _ e => .inl e)
/-- a message's vector lies in a block from B on -/
def newD (B : Nat) (m : Msg) : Prop := ∀ b, (Value.slice m.da m.ds.length m.dc).ownBlock = some b → B ≤ b
theorem HoldAt.belowAll {w w' : World} {D : Nat} {lo : Nat → Nat} {R : Nat → List Msg} {V : Nat → Value} (h : HoldAt w D lo R V) : ∀ w', Below w.heap.size w w' → HoldAt w' D lo R V := fun _ hb => h.below hb
set_option maxRecDepth 100000 in
set_option maxHeartbeats 4000000 in
theorem hPut_in3 (D : Nat) (lo : Nat → Nat) (R : Nat → List Msg) (V : Nat → Value) (p : Nat) (m : Msg) (w : World) (h : HoldAt w D lo R V) (hb : HoldBd lo R) (hp : p < 64) (hm : m.frm = (p : Int)) (hok : MsgOk w m) (hds : m.ds.length ≤ 1000000) (hseq : m.seq = lo p + (R p).length + 1) :
    Calls Tryd.prog 48 #[.pointer (some ⟨D, 0, none⟩), .agg (msgA m)] w fun e w' => e = .returned (.int .i64 0) ∧ (∃ m' v', core m' = core m ∧ newD w.heap.size m' ∧ HoldAt w' D lo (upd R p (R p ++ [m'])) (upd V p v') ∧ (v'.ownBlock = (V p).ownBlock ∨ ∃ b, v'.ownBlock = some b ∧ w.heap.size ≤ b)) ∧ Kept (holdS D V) w w' := by
  obtain ⟨X, hX⟩ : ∃ X, X = msgA m := ⟨_, rfl⟩
  have hbX := ba (br w) (.cells X 42)
  have hx := heap_alloc_new w (.cells X 42)
  have x0 : X[0]? = some (.int .i64 (p : Int)) := by rw [hX, ← hm]; rfl
  have x1 : X[1]? = some (.int .u32 (m.seq : Int)) := by rw [hX]; rfl
  have HP := Lib.hid (fun W => process_any (p : Int) W)
  rw [show procB (p : Int) = true by simp [procB]; omega] at HP
  obtain ⟨W, hW⟩ : ∃ W, W = w.alloc (.cells X 42) := ⟨_, rfl⟩
  rw [← hX]
  have hhW := h.below hbX
  rw [← hW] at hhW hbX hx
  have c0 : W.cell? ⟨w.heap.size, 0, none⟩ = some (.int .i64 (p : Int)) := (cell_of_row _ _ 0 _ _ _ hx).trans x0
  have c1 : W.cell? ⟨w.heap.size, 1, none⟩ = some (.int .u32 (m.seq : Int)) := (cell_of_row _ _ 1 _ _ _ hx).trans x1
  have HC := Lib.hid (fun (W' : World) (hb' : Below W.heap.size W W') => hCount_in D lo R V p W' (hhW.below hb') hp hb)
  have hsq : m.seq < 4294967296 := hok.2.2.1
  have d1 : ((m.seq : Int) == 0) = false := by simp; omega
  have d2 : IntKind.u32.wrap ((m.seq : Int) - 1) = ((lo p + (R p).length : Nat) : Int) := by rw [IntKind.wrap_u32]; omega
  obtain ⟨s, hs⟩ : ∃ s, s = lo p + (R p).length := ⟨_, rfl⟩
  rw [← hs] at HC d2 hseq
  have d3 : ((s : Int) != (s : Int)) = false := by simp
  have hsq1 : s < 4294967295 := by omega
  have HH := Lib.hid (And.intro hhW (And.intro hbX (And.intro hx (And.intro hX (And.intro hok (And.intro hds (And.intro hb h)))))))
  clear hhW hbX hX hok hds hb x0 x1 hs h hseq
  go_enter Tryd.func48, Tryd.ntmps48
  go_upto_region 1 with (fail)
  rw [← hW]
  clear hW
  go_wp2_with fail
  refine (HP.out _).mono ?_
  rintro e w' ⟨rfl, rfl⟩
  go_upto_region 3 with (fail)
  go_cut [10] (fun q wx => q = .bool false ∧ Below W.heap.size W wx)
  case first =>
    have b0 := Bel.cell c0 (Array.getElem?_eq_some_iff.1 hx).1
    have b1 := Bel.cell c1 (Array.getElem?_eq_some_iff.1 hx).1
    refine wp_region_bel (by kernel_rfl) (by kernel_rfl) ?_
    repeat (go_big_quiet_step ((go_at_call 73; exact bel_call (HC.out _ (Bel.prop _)))))
    refine wpQuiet_nil ?_
    intro w5 hw5
    obtain ⟨x5, rfl⟩ := hw5
    have hb5 := x5.prop
    generalize x5.val = w5 at *
    go_wp2
    go_meet
    exact ⟨rfl, hb5⟩
  case rest =>
    obtain ⟨rfl, hb5⟩ := hcut
    obtain ⟨i0, hi, hz0, hz1, hz2⟩ := info_parts info42
    obtain ⟨adp, capp, hvp⟩ := HH.out.1.form hp
    have hSall : ∀ w', Below wc.heap.size wc w' → w'.cell? ⟨w.heap.size, 0, none⟩ = some (.int .i64 (p : Int)) ∧ w'.rangeAt w.heap.size 0 X.toList ∧ w'.cell? ⟨D, 64 + p, none⟩ = some (.slice adp (R p).length capp) := by
      intro w' hb'
      have hbw := bt hb5 hb'
      have e1 := (hbw.block _ (Array.getElem?_eq_some_iff.1 hx).1).trans hx
      refine ⟨(hbw.cell (p := ⟨w.heap.size, 0, none⟩) (Array.getElem?_eq_some_iff.1 hx).1).trans c0, fun j u hu => (cell_of_row _ _ _ _ _ _ e1).trans (by simpa using hu), ?_⟩
      rw [← hvp]
      exact (HH.out.1.below hbw).cv hp
    have hXl : X.toList.length = 6 := by rw [HH.out.2.2.2.1]; rfl
    have hXs : i0.size = X.size := hz1.trans (by simpa using hXl.symm)
    have HS := Lib.hid hSall
    have HB := Lib.hid hb5
    have HV := Lib.hid hvp
    clear hSall hb5 c0 c1 hvp hx
    have hi1 : (p : Int) < 64 := by omega
    go_wp2_with fail
    refine wp_region_mask (fun w' => w'.cell? ⟨w.heap.size, 0, none⟩ = some (.int .i64 (p : Int)) ∧ w'.rangeAt w.heap.size 0 X.toList ∧ w'.cell? ⟨D, 64 + p, none⟩ = some (.slice adp (R p).length capp)) 16 5 [true, true, true, true, true, true, true, true, true, true, true, false, false, false, true, true, false, false] #[true, true, true, true, true, true, true, true, true, true, true, false, false, false, true, true, false, false] (by kernel_rfl) (by kernel_rfl) (by kernel_rfl) (HS.out _ (br wc).drew) ?_
    iterate 10
      refine wpMask_take _ (Or.inl ⟨by rfl, fun w' hS => by (try dsimp only at hS); go_simp; try with_reducible rfl⟩) ?_
      simp only [Act.put, List.setIfInBounds_toArray, List.set_cons_zero, List.set_cons_succ]
    refine wpMask_take _ (yieldsIf_load_mid (by rfl) 42 (.tmp 3) rfl w.heap.size 0 rfl X.toList _ (fun w' hS => hS.2.1) Tryd.underlying42 rfl (by rw [hXl]; kernel_rfl)) ?_
    simp only [Act.put, List.setIfInBounds_toArray, List.set_cons_zero, List.set_cons_succ]
    refine wpMask_skip (wpMask_skip (wpMask_skip ?_))
    iterate 2
      refine wpMask_take _ (Or.inl ⟨by rfl, fun w' hS => by (try dsimp only at hS); go_simp; try with_reducible rfl⟩) ?_
      simp only [Act.put, List.setIfInBounds_toArray, List.set_cons_zero, List.set_cons_succ]
    refine wpMask_skip (wpMask_skip (wpMask_nil ?_))
    have hbd : Below wc.heap.size wc wc.drew := (br wc).drew
    generalize wc.drew = W5 at *
    have hown1 := ownOne W5 W5.heap.size 42 X 6 (by simpa using hXl) (Nat.le_refl _)
    have hb6 := bt hbd (ba (br W5) (.cells X 42))
    have hbw6 := bt HB.out hb6
    refine wpAnyS_ready (rs := [11]) (by kernel_rfl) (by simp) ?_
    refine AllReadyS.cons rfl (fun K hK => ?_) AllReadyS.nil
    refine step_buildSlice_row rfl 27 (.tmp 34) rfl 42 i0 _ Tryd.underlying27 hi hz0 X rfl hXs (by omega) (by omega) ?_
    refine hK.out _ _ (fun _ => HS.out _ hb6) ?_
    clear hK K
    simp only [Act.put, List.setIfInBounds_toArray, List.set_cons_zero, List.set_cons_succ]
    refine wpAnyS_ready (rs := [12]) (by kernel_rfl) (by simp) ?_
    refine AllReadyS.cons rfl (fun K hK => ?_) AllReadyS.nil
    go_simp
    have hok6 : MsgOk (W5.alloc (.cells X 42)) m := HH.out.2.2.2.2.1.below (bt HH.out.2.1 hbw6)
    have hrows : rowsM [m] = X.toList := by rw [HH.out.2.2.2.1]; simp [rowsM]
    have hms : MsgsAt (W5.alloc (.cells X 42)) (.slice (some ⟨W5.heap.size, 0, none⟩) 1 1) [m] := by
      rw [← hrows] at hown1
      exact (RowsAt.of_own (J := [m]) hown1).rowsIn.msgsAt (by simp) (by intro y hy; simp at hy; rw [hy]; exact hok6)
    refine (copies_any _ [m] _ hms (by simp) (by intro y hy; simp at hy; rw [hy]; exact HH.out.2.2.2.2.2.1)).mono ?_
    rintro e w7 ⟨⟨v7, L7, rfl, ho7, hmap, hfr⟩, hb7⟩
    obtain ⟨m', rfl⟩ : ∃ m', L7 = [m'] := by
      have := congrArg List.length hmap
      simp at this
      exact one_len this
    have hcore : core m' = core m := by simpa using hmap
    have hb57 := bt hb6 hb7
    refine hK.out _ _ (fun _ => HS.out _ hb57) ?_
    clear hK K
    simp only [Act.put, List.setIfInBounds_toArray, List.set_cons_zero, List.set_cons_succ]
    have hbw7 := bt (bt HH.out.2.1 HB.out) hb57
    have h7 := HH.out.2.2.2.2.2.2.2.below hbw7
    have hop := h7.own p hp
    rw [HV.out] at hop
    obtain ⟨a7, c7, rfl⟩ := ownForm ho7
    have hbdp := (HH.out.2.2.2.2.2.2.1 p hp).1
    refine wpAnyS_ready (rs := [13]) (by kernel_rfl) (by simp) ?_
    refine AllReadyS.cons rfl (fun K hK => ?_) AllReadyS.nil
    refine step_append_any _ rfl (.tmp 33) (.tmp 36) 27 rfl 0 42 i0 _ 6 72 Tryd.underlying27 hi hz0 hz1 hz2 rfl (by decide) _ (R p).length (rowsM (R p)) rfl hop _ a7 1 c7 (rowsM [m']) rfl (Reads.of_own ho7) (rowsM_one _) (by unfold maxLen; omega) (by omega) (Nat.zero_le _) ?_
    intro v8 w8 ho8 hg8 hu8
    rw [← HV.out] at hg8 hu8
    obtain ⟨a8, c8, rfl⟩ := ownForm ho8
    obtain ⟨g1, g2, g3⟩ := h7.grown hp hg8
    have hk8 : Kept (fun k => (V p).ownBlock = some k) w7 w8 := ⟨hg8.os, hg8.tape, hg8.output, hg8.size, fun i hi hs => hg8.block i hi (fun e => hs e.symm)⟩
    have hN : ¬ (V p).ownBlock = some w.heap.size := fun e => by
      have := ((HH.out.2.2.2.2.2.2.2.own p hp).lt _ e).2
      omega
    have hS8 : w8.cell? ⟨w.heap.size, 0, none⟩ = some (.int .i64 (p : Int)) ∧ w8.rangeAt w.heap.size 0 X.toList ∧ w8.cell? ⟨D, 64 + p, none⟩ = some (.slice adp (R p).length capp) := by
      obtain ⟨s1, s2, s3⟩ := HS.out _ hb57
      have hNlt : w.heap.size < w7.heap.size := by
        have h1 := HH.out.2.1.size
        have h2 := (bt HB.out hb57).size
        have h3 := (Array.getElem?_eq_some_iff.1 HH.out.2.2.1).1
        omega
      refine ⟨(hk8.cell (p := ⟨w.heap.size, 0, none⟩) hNlt hN).trans s1, fun j u hu => (hk8.cell (p := ⟨w.heap.size, 0 + j, none⟩) hNlt hN).trans (s2 j u hu), ?_⟩
      rw [← HV.out]
      exact (cell_of_row _ _ (64 + p) _ _ _ g1).trans (holdC_v lo V hp)
    have hfree8 : w8.frozen? ⟨D, 64 + p, none⟩ = false := frozen_of_row _ _ _ _ _ g1
    refine hK.out _ _ (fun _ => hS8) ?_
    clear hK K
    simp only [Act.put, List.setIfInBounds_toArray, List.set_cons_zero, List.set_cons_succ]
    have ho8' : w8.ownsRow 0 42 6 (.slice a8 ((R p).length + 1) c8) (R p ++ [m']).length (rowsM (R p ++ [m'])) := by rw [List.length_append, rowsM_append]; exact ho8
    have hfin := HH.out.2.2.2.2.2.2.2.put hp hbw7 (hfr m' (by simp)) ho8' hg8 hu8
    have hnew : newD w.heap.size m' := fun b hb => by
      have h1 := ((hfr m' (by simp)).2.lt b hb).1
      have h2 := (bt HH.out.2.1 hbw6).size
      omega
    have HFIN := Lib.hid (And.intro hcore (And.intro hfin (show (Value.slice a8 ((R p).length + 1) c8).ownBlock = (V p).ownBlock ∨ ∃ b, (Value.slice a8 ((R p).length + 1) c8).ownBlock = some b ∧ w.heap.size ≤ b from hu8.imp id fun e => ⟨_, e, hbw7.size⟩)))
    have HNEW := Lib.hid hnew
    have cell8 := hS8.2.2
    clear hnew hfin hS8 g1 g2 g3 hk8 hN hop ho7 hb57 hbw7 h7 hcore hmap hfr hb7 ho8 ho8' hg8 hu8 hok6 hms hown1 hb6 hbw6
    refine wpAnyS_ready (rs := [16]) (by kernel_rfl) (by simp) ?_
    refine AllReadyS.cons rfl (fun K hK => ?_) AllReadyS.nil
    go_simp
    refine hK.out _ _ (fun h => absurd h (by omega)) ?_
    clear hK K
    simp only [Act.put, List.setIfInBounds_toArray, List.set_cons_zero, List.set_cons_succ]
    refine wpAnyS_ready (rs := [17]) (by kernel_rfl) (by simp) ?_
    refine AllReadyS.cons rfl (fun K hK => ?_) AllReadyS.nil
    go_simp
    refine hK.out _ _ (fun h => absurd h (by omega)) ?_
    clear hK K
    refine wpAnyS_done (by kernel_rfl) ?_ _
    go_wp2
    go_ret
    exact ⟨rfl, ⟨m', _, HFIN.out.1, HNEW.out, HFIN.out.2.1.1, HFIN.out.2.2⟩, HFIN.out.2.1.2⟩
theorem hPut_in (D : Nat) (lo : Nat → Nat) (R : Nat → List Msg) (V : Nat → Value) (p : Nat) (m : Msg) (w : World) (h : HoldAt w D lo R V) (hb : HoldBd lo R) (hp : p < 64) (hm : m.frm = (p : Int)) (hok : MsgOk w m) (hds : m.ds.length ≤ 1000000) (hseq : m.seq = lo p + (R p).length + 1) :
    Calls Tryd.prog 48 #[.pointer (some ⟨D, 0, none⟩), .agg (msgA m)] w fun e w' => e = .returned (.int .i64 0) ∧ (∃ m' v', core m' = core m ∧ HoldAt w' D lo (upd R p (R p ++ [m'])) (upd V p v') ∧ (v'.ownBlock = (V p).ownBlock ∨ ∃ b, v'.ownBlock = some b ∧ w.heap.size ≤ b)) ∧ Kept (holdS D V) w w' :=
  (hPut_in3 D lo R V p m w h hb hp hm hok hds hseq).mono fun e w' ⟨he, ⟨m', v', h1, _, h2, h3⟩, h4⟩ => ⟨he, ⟨m', v', h1, h2, h3⟩, h4⟩
set_option maxRecDepth 100000 in
set_option maxHeartbeats 4000000 in
theorem hPut_order (D : Nat) (lo : Nat → Nat) (R : Nat → List Msg) (V : Nat → Value) (p : Nat) (m : Msg) (w : World) (h : HoldAt w D lo R V) (hb : HoldBd lo R) (hp : p < 64) (hm : m.frm = (p : Int)) (hsq : m.seq < 4294967296) (hseq : m.seq ≠ lo p + (R p).length + 1) :
    Calls Tryd.prog 48 #[.pointer (some ⟨D, 0, none⟩), .agg (msgA m)] w fun e w' => e = .returned (.int .i64 13) ∧ Below w.heap.size w w' := by
  obtain ⟨X, hX⟩ : ∃ X, X = msgA m := ⟨_, rfl⟩
  have hbX := ba (br w) (.cells X 42)
  have hx := heap_alloc_new w (.cells X 42)
  have x0 : X[0]? = some (.int .i64 (p : Int)) := by rw [hX, ← hm]; rfl
  have x1 : X[1]? = some (.int .u32 (m.seq : Int)) := by rw [hX]; rfl
  have HP := Lib.hid (fun W => process_any (p : Int) W)
  rw [show procB (p : Int) = true by simp [procB]; omega] at HP
  obtain ⟨W, hW⟩ : ∃ W, W = w.alloc (.cells X 42) := ⟨_, rfl⟩
  rw [← hX]
  have hhW := h.below hbX
  rw [← hW] at hhW hbX hx
  have c0 : W.cell? ⟨w.heap.size, 0, none⟩ = some (.int .i64 (p : Int)) := (cell_of_row _ _ 0 _ _ _ hx).trans x0
  have c1 : W.cell? ⟨w.heap.size, 1, none⟩ = some (.int .u32 (m.seq : Int)) := (cell_of_row _ _ 1 _ _ _ hx).trans x1
  have HC := Lib.hid (fun (W' : World) (hb' : Below W.heap.size W W') => hCount_in D lo R V p W' (hhW.below hb') hp hb)
  obtain ⟨s, hs⟩ : ∃ s, s = lo p + (R p).length := ⟨_, rfl⟩
  rw [← hs] at HC hseq
  have hs9 : s ≤ 101000 := by have := hb p hp; omega
  obtain ⟨q, hq⟩ : ∃ q, q = m.seq := ⟨_, rfl⟩
  rw [← hq] at c1 hsq hseq
  have HH := Lib.hid (And.intro hbX hx)
  clear hhW hbX hX hb x0 x1 hs h hm hq
  go_enter Tryd.func48, Tryd.ntmps48
  go_upto_region 1 with (fail)
  rw [← hW]
  clear hW
  go_wp2_with fail
  refine (HP.out _).mono ?_
  rintro e w' ⟨rfl, rfl⟩
  have b0 := Bel.cell c0 (Array.getElem?_eq_some_iff.1 hx).1
  have b1 := Bel.cell c1 (Array.getElem?_eq_some_iff.1 hx).1
  by_cases h0 : q = 0
  · subst h0
    have d1 : (((0 : Nat) : Int) == 0) = true := by decide
    go_wp2_with fail
    refine wp_region_bel (by kernel_rfl) (by kernel_rfl) ?_
    repeat (go_big_quiet_step ((fail)))
    refine wpQuiet_nil ?_
    intro w5 hw5
    obtain ⟨x5, rfl⟩ := hw5
    have hb5 := bt HH.out.1 x5.prop
    generalize x5.val = w5 at *
    go_wp2
    go_ret
    exact ⟨rfl, hb5⟩
  · have d1 : ((q : Int) == 0) = false := by simp; omega
    obtain ⟨r, hr⟩ : ∃ r : Nat, IntKind.u32.wrap ((q : Int) - 1) = (r : Int) := ⟨q - 1, by rw [IntKind.wrap_u32]; omega⟩
    have hr2 : r ≠ s := by rw [IntKind.wrap_u32] at hr; omega
    have d2 : ((r : Int) != (s : Int)) = true := by simp; omega
    clear hr2 hseq
    go_wp2_with fail
    refine wp_region_bel (by kernel_rfl) (by kernel_rfl) ?_
    repeat (go_big_quiet_step ((go_at_call 73; exact bel_call (HC.out _ (Bel.prop _)))))
    refine wpQuiet_nil ?_
    intro w5 hw5
    obtain ⟨x5, rfl⟩ := hw5
    have hb5 := bt HH.out.1 x5.prop
    generalize x5.val = w5 at *
    go_wp2
    go_ret
    exact ⟨rfl, hb5⟩
/-- Put's answer -/
def putK (lo : Nat → Nat) (R : Nat → List Msg) (m : Msg) : Int := if procB m.frm = false then 1 else if m.seq = lo m.frm.toNat + (R m.frm.toNat).length + 1 then 0 else 13
def PutEnd (w : World) (D : Nat) (lo : Nat → Nat) (R : Nat → List Msg) (V : Nat → Value) (m : Msg) (e : Ending) (w' : World) : Prop :=
  e = .returned (.int .i64 (putK lo R m)) ∧ Kept (holdS D V) w w' ∧ ((putK lo R m ≠ 0 ∧ HoldAt w' D lo R V) ∨ (putK lo R m = 0 ∧ m.frm.toNat < 64 ∧ m.frm = (m.frm.toNat : Int) ∧ ∃ m' v', core m' = core m ∧ HoldAt w' D lo (upd R m.frm.toNat (R m.frm.toNat ++ [m'])) (upd V m.frm.toNat v') ∧ (v'.ownBlock = (V m.frm.toNat).ownBlock ∨ ∃ b, v'.ownBlock = some b ∧ w.heap.size ≤ b)))
theorem hPut_any (D : Nat) (lo : Nat → Nat) (R : Nat → List Msg) (V : Nat → Value) (m : Msg) (w : World) (h : HoldAt w D lo R V) (hb : HoldBd lo R) (hok : MsgOk w m) (hds : m.ds.length ≤ 1000000) :
    Calls Tryd.prog 48 #[.pointer (some ⟨D, 0, none⟩), .agg (msgA m)] w fun e w' => PutEnd w D lo R V m e w' := by
  unfold PutEnd
  by_cases hp : procB m.frm = false
  · have hk : putK lo R m = 1 := by unfold putK; rw [if_pos hp]
    rw [hk]
    exact (hPut_range D m w hp).mono fun e w' ⟨he, hb'⟩ => ⟨he, .of_below hb', .inl ⟨by decide, h.below hb'⟩⟩
  · have hpp : 0 ≤ m.frm ∧ m.frm < 64 := by simpa [procB] using hp
    obtain ⟨p, hpe⟩ : ∃ p : Nat, m.frm = (p : Int) := ⟨m.frm.toNat, by omega⟩
    have hpt : m.frm.toNat = p := by omega
    rw [hpt]
    by_cases hs : m.seq = lo p + (R p).length + 1
    · have hk : putK lo R m = 0 := by unfold putK; rw [if_neg hp, hpt, if_pos hs]
      rw [hk]
      exact (hPut_in D lo R V p m w h hb (by omega) hpe hok hds hs).mono fun e w' ⟨he, ⟨m', v', h1, h2, h3⟩, h4⟩ => ⟨he, h4, .inr ⟨rfl, by omega, hpe, m', v', h1, h2, h3⟩⟩
    · have hk : putK lo R m = 13 := by unfold putK; rw [if_neg hp, hpt, if_neg hs]
      rw [hk]
      exact (hPut_order D lo R V p m w h hb (by omega) hpe hok.2.2.1 hs).mono fun e w' ⟨he, hb'⟩ => ⟨he, .of_below hb', .inl ⟨by decide, h.below hb'⟩⟩
end Go.Proofs.YtgjlcjbmcnofiaaDoor
