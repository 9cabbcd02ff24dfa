/-
  The law OrderPlays: every row of calls is answered as the reference says, and leaves what it says.
  Conditions: the members' set below 2^64, the acts' row as the law is called, math/bits' table.
-/
import Derived.Test.YtgjlcjbmcnofiaaDoorPlX
import Derived.Test.YtgjlcjbmcnofiaaDoorOrdJM
import Derived.Test.YtgjlcjbmcnofiaaDoorRows
import Derived.ProofKit
import Derived.LaidMore
import Derived.OpenShut
import Derived.Stop.Joined
namespace Go.Proofs.YtgjlcjbmcnofiaaDoor
set_option linter.unusedVariables false
set_option linter.unusedSimpArgs false
open Go.RowKit
theorem rowsIn_nil (w : World) : RowsIn w (.slice none 0 0) [] := (RowsAt.nil w).rowsIn
theorem toldIn_nil (w : World) : ToldIn w (.slice none 0 0) [] := ⟨none, 0, rfl, Reads.none_⟩
theorem Pl.start {w0 w : World} {B D Z : Nat} {me : Int} {ms : Nat} {F : Nat → Prop} (h : OrH w0 w B D Z (po0 me ms) nilV nilV) (hT : Tab w0) (hm : ms < 18446744073709551616) (hF : ∀ b, F b → ¬ orS B D Z nilV nilV b ∧ w0.heap.size ≤ b ∧ b < w.heap.size) : Pl w0 w B D Z 0 (po0 me ms) (ro0 me ms) (.slice none 0 0) (.slice none 0 0) F :=
  ⟨⟨nilV, nilV, ⟨h.at_, (InvO.new me ms hm).ok (by omega), h.tab hT, RefO.zero me ms, rowsIn_nil w, toldIn_nil w, fun p n c e => (by cases e), fun p n c e => (by cases e), fun m hm => (by cases hm)⟩, h.frm, fun b hb => (hF b hb).1⟩, InvO.new me ms hm, Nat.le_refl _, Nat.le_refl _, fun m hm => (by cases hm), fun p n c e => (by cases e), fun p n c e => (by cases e), fun b hb => (hF b hb).2.2, fun b hb => (hF b hb).2.1, hT, h.bel⟩
theorem Lp.pl {w wr w' : World} {B D Z R k : Nat} {O : PO} {S : RO} {va vz : Value} (h : Pl w wr B D Z k O S va vz (fun b => b = R)) (hb : Below wr.heap.size wr w') : Pl w w' B D Z k O S va vz (fun b => b = R) := h.below hb
theorem reads_own {w7 W : World} {b : Nat} {ad : Option Addr} {n cap : Nat} {xs : List Value} (h : w7.ownsRow b 33 1 (.slice ad n cap) n xs) (hb : Below w7.heap.size w7 W) : Reads W W.heap.size 1 ad n xs := ((Reads.of_own h).below hb).more hb.size
theorem addr_own {w : World} {b : Nat} {e : TypeId} {sz n cap : Nat} {ad : Option Addr} {xs : List Value} (h : w.ownsRow b e sz (.slice ad n cap) n xs) : ∀ p, ad = some p → p = ⟨p.block, p.off, none⟩ := by
  rcases h.2 with ⟨e, _⟩ | ⟨g, c, cur, e, _⟩
  · injection e with e _ _
    intro p hp
    rw [e] at hp
    cases hp
  · injection e with e _ _
    intro p hp
    rw [e] at hp
    injection hp with hp
    rw [← hp]
set_option maxRecDepth 100000 in
set_option maxHeartbeats 16000000 in
theorem law_orderPlays (me : Int) (ms : Nat) (v : Value) (l : List ActO) (n : Int) (w : World) (hm : ms < 18446744073709551616) (hT : Tab w) (h : ActsO w v l) :
    Calls Tryd.prog 6 #[.int .i64 me, .int .u64 (ms : Int), v, .int .i64 n] w fun e w' => e = .returned (.bool true) ∧ Below w.heap.size w w' := by
  have HT := Lib.hid hT
  have HL := Lib.hid h
  have HAW := Lib.hid (awake14_any w hT)
  have HFE := Lib.hid (fun (W : World) (hb : Below w.heap.size w W) => FewO_any v l W (h.below hb))
  have HM := Lib.hid hm
  have hz := zeroR_run
  obtain ⟨ZR, hZR⟩ : ∃ Z, Z = zeroR := ⟨_, rfl⟩
  have hZs : ZR.size = 199 := by rw [hZR]; unfold zeroR; rw [rfC_size]
  rw [← hZR] at hz
  have HZS := Lib.hid hZs
  obtain ⟨ad, cap, rfl, hl9, _⟩ := h
  clear hT hm hZR hZs
  go_enter Tryd.func6, Tryd.ntmps6
  go_wp2_with fail
  refine HAW.out.mono ?_
  rintro e w1 ⟨rfl, hb1⟩
  have HB1 := Lib.hid hb1
  clear hb1 HAW
  go_wp2_with fail
  refine (HFE.out _ HB1.out).mono ?_
  rintro e w2 ⟨⟨b, rfl, hfew⟩, hb2⟩
  have HB2 := Lib.hid (bt HB1.out hb2)
  clear hb2 HFE HB1
  cases b
  · clear hfew
    go_wp2_with fail
    go_ret
    exact ⟨rfl, HB2.out⟩
  have HF := Lib.hid (hfew rfl)
  clear hfew
  go_upto_region 5 with (fail)
  refine wp_region_lit ?_
  iterate 2
    refine wpList_step (fun K hK => ?_)
    go_simp
    refine hK _ _ ?_
    clear hK K
    (try simp only [Act.put, List.setIfInBounds_toArray, List.set_cons_zero, List.set_cons_succ])
  refine wpList_step (fun K hK => ?_)
  go_simp
  refine (orNew_any me ms w2 HM.out).mono ?_
  rintro e w3 hn
  obtain ⟨B, D, Z, rfl, h3, hf3, hb3⟩ := orh_new HB2.out hn
  have H3 := Lib.hid (And.intro h3 (And.intro hf3 hb3))
  clear hn h3 hf3 hb3
  refine hK _ _ ?_
  clear hK K
  (try simp only [Act.put, List.setIfInBounds_toArray, List.set_cons_zero, List.set_cons_succ])
  iterate 2
    refine wpList_step (fun K hK => ?_)
    go_simp
    refine hK _ _ ?_
    clear hK K
    (try simp only [Act.put, List.setIfInBounds_toArray, List.set_cons_zero, List.set_cons_succ])
  refine wpList_step (fun K hK => ?_)
  go_simp
  refine (rNew_any me ms w3 HM.out).mono ?_
  rintro e w4 ⟨rfl, hb4⟩
  obtain ⟨X, hX⟩ : ∃ X, X = rfC (ro0 me ms) (.slice none 0 0) (.slice none 0 0) := ⟨_, rfl⟩
  rw [← hX]
  have HX := Lib.hid (show (Tryd.prog.info? 73).map (·.size) = some X.size ∧ ZR.size = X.size ∧ X.all (·.oneCell') = true ∧ X = rfC (ro0 me ms) (.slice none 0 0) (.slice none 0 0) from by rw [hX]; exact ⟨rfSize, by rw [HZS.out, rfC_size], rfC_one _ _ _ rfl rfl, rfl⟩)
  clear hX
  refine hK _ _ ?_
  clear hK K
  (try simp only [Act.put, List.setIfInBounds_toArray, List.set_cons_zero, List.set_cons_succ])
  iterate 2
    refine wpList_step (fun K hK => ?_)
    go_simp
    refine hK _ _ ?_
    clear hK K
    (try simp only [Act.put, List.setIfInBounds_toArray, List.set_cons_zero, List.set_cons_succ])
  obtain ⟨R, hR⟩ : ∃ z, z = w4.heap.size := ⟨_, rfl⟩
  have hp1 := heap_alloc_new w4 (.cells ZR 73)
  have hba := ba (br w4) (.cells ZR 73)
  rw [← hR] at hp1 ⊢
  refine wpList_store_row rfl 73 (.tmp 10) (.tmp 26) rfl R X rfl rfl 73 _ hp1 HX.out.1 HX.out.2.1 HX.out.2.2.1 ?_
  simp only [Act.put]
  have hq5 := setRow_heap _ _ _ X _ _ hp1
  have hb5 : Below w4.heap.size w4 ((w4.alloc (.cells ZR 73)).setRow R X) := (setRow_keptR _ _ X).out hba hba.size (fun b hb e => by omega)
  obtain ⟨w5, hw5⟩ : ∃ z, z = (w4.alloc (.cells ZR 73)).setRow R X := ⟨_, rfl⟩
  rw [← hw5] at hq5 hb5 ⊢
  refine wpList_nil ?_
  have h5 := H3.out.1.below (bt hb4 hb5)
  have HI := Lib.hid (show Lp w B D Z R 0 w5 from by
    refine ⟨po0 me ms, ro0 me ms, .slice none 0 0, .slice none 0 0, Pl.start h5 HT.out HM.out (fun b hb => ?_), by rw [← HX.out.2.2.2]; exact hq5⟩
    subst hb
    have e3 := H3.out.1.bel.size
    have e4 := hb4.size
    refine ⟨fun ho => ?_, by omega, (Array.getElem?_eq_some_iff.1 hq5).1⟩
    have := H3.out.1.at_.sz ho
    omega)
  clear hp1 hba hq5 hb5 hw5 h5 hb4 hR H3 HB2 HX
  go_wp2_with fail
  go_loopw [11] (fun i wr => ∃ k : Nat, k ≤ l.length ∧ i = .int .i64 (k : Int) ∧ Hid (Lp w B D Z R k wr)) (fun i _ => l.length - (intOf i).toNat)
  case atStart => exact ⟨0, by omega, rfl, HI⟩
  case round =>
    obtain ⟨k, hk, rfl, HS⟩ := hrel
    by_cases hlt : k < l.length
    · have hbool : decide ((k : Int) < (l.length : Int)) = true := by simpa using hlt
      have hi0 : (k : Int) < (l.length : Int) := by omega
      obtain ⟨O, S, va, vz, h1, h2⟩ := HS.out.ex
      obtain ⟨ad', cap', e0, _, hms⟩ := HL.out.below h1.bel
      injection e0 with e0 e1 e2
      subst e0
      subst e2
      clear e1
      obtain ⟨g, o, rfl, hg, hrow, hok, hup⟩ := hms k hlt
      have hok0 : MsgOk w (l[k]).m := by
        obtain ⟨_, _, _, _, hms0⟩ := HL.out
        obtain ⟨_, _, _, _, _, hok0, _⟩ := hms0 k hlt
        exact hok0
      have hds : (l[k]).m.ds.length ≤ 20000 := (HF.out.2 l[k] (List.getElem_mem hlt)).2
      have hk60 : k ≤ 60 := by have := HF.out.1; omega
      obtain ⟨a, ha⟩ : ∃ a, a = l[k] := ⟨_, rfl⟩
      rw [← ha] at hrow hok hup hds hok0
      obtain ⟨X, hX⟩ : ∃ X, X = rfC S va vz := ⟨_, rfl⟩
      have hpl : ∀ W, Below wr.heap.size wr W → Calls Tryd.prog 25 #[.pointer (some ⟨B, 0, none⟩), .agg X, .agg (actL a).toArray] W (PlEnd w W B D Z k (fun b => b = R)) := fun W hb => by
        rw [hX]
        exact play_any a (h1.below hb) (by omega) hok0 hds hup.1 hup.2
      have hpn : ∀ (W : World) (N : Nat), Below wr.heap.size wr W → wr.heap.size ≤ N → N < W.heap.size → Calls Tryd.prog 25 #[.pointer (some ⟨B, 0, none⟩), .agg X, .agg (actL a).toArray] W (PlEnd w W B D Z k (fun b => b = R ∨ b = N)) := fun W N hb hN1 hN2 => by
        rw [hX]
        exact play_any a (h1.add hb (fun b e => e.imp id (fun e => ⟨by omega, by omega⟩))) (by omega) hok0 hds hup.1 hup.2
      have HPN := Lib.hid hpn
      rw [← hX] at h2
      have H2 := Lib.hid h2
      have HSS := Lib.hid (show ∀ w', Kept (fun b => w.heap.size ≤ b ∧ b ≠ R) wr w' → w'.rangeAt R 0 X.toList ∧ w'.rangeAt g (o + k * 10) (actL a) from fun w' hkp => ⟨rangeAt_of (hkp.keep h2 (fun e => e.2 rfl)) (fun j hj => by rw [Nat.zero_add]), fun j u hu => by
        have hgw : g < w.heap.size := by
          obtain ⟨_, _, e0, _, q⟩ := HL.out
          obtain ⟨g', o', e', hg', _⟩ := q k hlt
          injection e0 with e0 _ _
          rw [← e0] at e'
          injection e' with e'
          injection e' with e' _
          omega
        exact (hkp.cell (p := ⟨g, o + k * 10 + j, none⟩) hg (fun e => by have := e.1; simp only at this; omega)).trans (hrow j u hu)⟩)
      have HSZ := Lib.hid (show (Tryd.prog.info? 73).map (·.size) = some X.toList.length ∧ (Tryd.prog.info? 51).map (·.size) = some (actL a).length ∧ Hid (Below w.heap.size w wr) ∧ X.size = 199 from ⟨by rw [hX, Array.length_toList]; exact rfSize, by kernel_rfl, Lib.hid h1.bel, by rw [hX]; exact rfC_size _ _ _⟩)
      have HPL := Lib.hid hpl
      have HRR := Lib.hid (show R < wr.heap.size ∧ w.heap.size ≤ R from ⟨(Array.getElem?_eq_some_iff.1 h2).1, h1.fF R rfl⟩)
      have HK := Lib.hid (And.intro hlt hk60)
      clear hms hg hrow hok hok0 hup hds ha h1 h2 hX hpl hpn hk60 hlt hk HS HI
      go_upto_region 9 with (fail)
      go_cut [12, 13] (fun s12 s13 wx => s13 = .bool true ∧ ∃ N X1, s12 = .pointer (some ⟨N, 0, none⟩) ∧ wx.heap[N]? = some (.cells X1 73 (0, 0)) ∧ Mid w B D Z R k X1 (fun b => b = R) wx ∧ Kept (fun b => w.heap.size ≤ b ∧ b ≠ R) wr wx)
      case first =>
        have hk0 : Kept (fun b => w.heap.size ≤ b ∧ b ≠ R) wr wr.drew := Kept.of_below (br wr).drew
        refine wp_region_mask (fun w' => w'.rangeAt R 0 X.toList ∧ w'.rangeAt g (o + k * 10) (actL a)) 12 7 [true, true, true, true, true, true, false, false, false, false, false, false, false] #[true, true, true, true, true, true, false, false, false, false, false, false, false] (by kernel_rfl) (by kernel_rfl) (by kernel_rfl) (HSS.out _ hk0) ?_
        have H6 := Lib.hid (show Below wr.heap.size wr wr.drew from (br wr).drew)
        have HK0 := Lib.hid hk0
        clear hk0
        generalize wr.drew = w6 at *
        refine wpMask_take _ (Or.inl ⟨by rfl, fun w' hS => by clear hS; go_simp; try with_reducible rfl⟩) ?_
        simp only [Act.put, List.getElem_toArray, List.getElem_cons_succ, List.getElem_cons_zero, List.setIfInBounds_toArray, List.set_cons_zero, List.set_cons_succ]
        refine wpMask_take _ (yieldsIf_load_mid (by rfl) 73 (.tmp 10) rfl R 0 rfl X.toList _ (fun w' hS => hS.1) Tryd.underlying73 rfl HSZ.out.1) ?_
        simp only [Act.put, List.getElem_toArray, List.getElem_cons_succ, List.getElem_cons_zero, List.setIfInBounds_toArray, List.set_cons_zero, List.set_cons_succ]
        refine wpMask_take _ (Or.inl ⟨by rfl, fun w' hS => by clear hS; go_simp; try with_reducible rfl⟩) ?_
        simp only [Act.put, List.getElem_toArray, List.getElem_cons_succ, List.getElem_cons_zero, List.setIfInBounds_toArray, List.set_cons_zero, List.set_cons_succ]
        refine wpMask_take _ (Or.inl ⟨by rfl, fun w' hS => by clear hS; go_simp; try with_reducible rfl⟩) ?_
        simp only [Act.put, List.getElem_toArray, List.getElem_cons_succ, List.getElem_cons_zero, List.setIfInBounds_toArray, List.set_cons_zero, List.set_cons_succ]
        refine wpMask_take _ (Or.inl ⟨by rfl, fun w' hS => by clear hS; go_simp; try with_reducible rfl⟩) ?_
        simp only [Act.put, List.getElem_toArray, List.getElem_cons_succ, List.getElem_cons_zero, List.setIfInBounds_toArray, List.set_cons_zero, List.set_cons_succ]
        refine wpMask_take _ (yieldsIf_load_mid (by rfl) 51 (.tmp 38) rfl g (o + k * 10) rfl (actL a) _ (fun w' hS => hS.2) Tryd.underlying51 rfl HSZ.out.2.1) ?_
        simp only [Act.put, List.getElem_toArray, List.getElem_cons_succ, List.getElem_cons_zero, List.setIfInBounds_toArray, List.set_cons_zero, List.set_cons_succ]
        simp only [Array.toArray_toList]
        iterate 7 refine wpMask_skip ?_
        refine wpMask_nil ?_
        have HFIN := Lib.hid (show ∀ (W9 : World) (N : Nat) (X1 : Array Value), W9.heap[N]? = some (.cells ZR 73 (0, 0)) → Mid w B D Z R k X1 (fun b => b = R ∨ b = N) W9 → N ≠ R → (W9.setRow N X1).heap[N]? = some (.cells X1 73 (0, 0)) ∧ Mid w B D Z R k X1 (fun b => b = R) (W9.setRow N X1) ∧ (Tryd.prog.info? 73).map (·.size) = some X1.size ∧ ZR.size = X1.size ∧ X1.all (·.oneCell') = true from fun W9 N X1 hx hM hN => by
          obtain ⟨s1, s2, s3, _⟩ := hM.size
          refine ⟨setRow_heap _ _ _ X1 _ _ hx, ?_, s1, by rw [HZS.out, s2], s3⟩
          exact (hM.aside (setRow_keptR W9 N X1) (calm_ref hx (by decide)) (fun b e => .inr e)).add (br _) (fun b e => .inl (.inl e)))
        refine wpAnyS_ready (rs := [6, 10]) (by kernel_rfl) (by simp) ?_
        refine AllReadyS.cons rfl (fun K hK => ?_) (AllReadyS.cons rfl (fun K hK => ?_) AllReadyS.nil)
        · go_simp
          refine (HPL.out _ H6.out).mono ?_
          rintro e w7 ⟨O1, S1, ua, uz, rfl, hp1, hkp⟩
          obtain ⟨X1, hX1⟩ : ∃ X, X = rfC S1 ua uz := ⟨_, rfl⟩
          rw [← hX1]
          have HM7 := Lib.hid (show Mid w B D Z R k X1 (fun b => b = R) w7 from ⟨O1, S1, ua, uz, hp1, hX1⟩)
          have HK7 := Lib.hid (show Kept (fun b => w.heap.size ≤ b ∧ b ≠ R) wr w7 from by
            obtain ⟨T, t1, t2, t3⟩ := hkp
            obtain ⟨q, hq⟩ : ∃ q, q = w7.heap.size := ⟨_, rfl⟩
            refine HK0.out.trans ⟨t1.os, t1.tape, t1.output, t1.size, fun i hi hn => ?_⟩
            by_cases e : i = R
            · exact t1.block i hi (t3 i e)
            · have hlt : i < w.heap.size := by
                rcases Nat.lt_or_ge i w.heap.size with g | g
                · exact g
                · exact absurd ⟨g, e⟩ hn
              exact (hp1.bel.block i hlt).trans ((bt HSZ.out.2.2.1.out H6.out).block i hlt).symm)
          clear hp1 hkp hX1
          refine hK.out _ _ (fun _ => HSS.out _ HK7.out) ?_
          clear hK K
          simp only [Act.put, List.getElem_toArray, List.getElem_cons_succ, List.getElem_cons_zero, List.setIfInBounds_toArray, List.set_cons_zero, List.set_cons_succ]
          refine wpAnyS_take (i := 7) _ rfl (by kernel_rfl) (Or.inl ⟨by rfl, fun w' hS => by clear hS; go_simp; try with_reducible rfl⟩) (HSS.out _ HK7.out) ?_
          simp only [Act.put, List.getElem_toArray, List.getElem_cons_succ, List.getElem_cons_zero, List.setIfInBounds_toArray, List.set_cons_zero, List.set_cons_succ]
          refine wpAnyS_take (i := 8) _ rfl (by kernel_rfl) (Or.inl ⟨by rfl, fun w' hS => by clear hS; go_simp; try with_reducible rfl⟩) (HSS.out _ HK7.out) ?_
          simp only [Act.put, List.getElem_toArray, List.getElem_cons_succ, List.getElem_cons_zero, List.setIfInBounds_toArray, List.set_cons_zero, List.set_cons_succ]
          refine wpAnyS_take (i := 9) _ rfl (by kernel_rfl) (Or.inl ⟨by rfl, fun w' hS => by clear hS; go_simp; try with_reducible rfl⟩) (HSS.out _ HK7.out) ?_
          simp only [Act.put, List.getElem_toArray, List.getElem_cons_succ, List.getElem_cons_zero, List.setIfInBounds_toArray, List.set_cons_zero, List.set_cons_succ]
          refine wpAnyS_ready (rs := [10]) (by kernel_rfl) (by simp) ?_
          refine AllReadyS.cons rfl (fun K hK => ?_) AllReadyS.nil
          go_simp
          have hx8 := heap_alloc_new w7 (.cells ZR 73)
          have hb8 := ba (br w7) (.cells ZR 73)
          obtain ⟨N, hN⟩ : ∃ z, z = w7.heap.size := ⟨_, rfl⟩
          rw [← hN] at hx8 ⊢
          obtain ⟨w8, hw8⟩ : ∃ z, z = w7.alloc (.cells ZR 73) := ⟨_, rfl⟩
          rw [← hw8] at hx8 hb8 ⊢
          have hR7 : R < w7.heap.size := Nat.lt_of_lt_of_le HRR.out.1 HK7.out.size
          have HE := Lib.hid (HFIN.out w8 N X1 hx8 (HM7.out.add hb8 (fun b e => by
            rcases e with e | e
            · exact .inl e
            · exact .inr ⟨by omega, by rw [e]; exact (Array.getElem?_eq_some_iff.1 hx8).1⟩)) (by omega))
          have HK8 := Lib.hid (show Kept (fun b => w.heap.size ≤ b ∧ b ≠ R) wr w8 from HK7.out.trans (Kept.of_below hb8))
          have HX8 := Lib.hid hx8
          have HNR := Lib.hid (show N ≠ R ∧ w.heap.size ≤ N from ⟨by omega, by have := HRR.out.2; omega⟩)
          refine hK.out _ _ (fun _ => HSS.out _ HK8.out) ?_
          clear hK K hx8 hb8 hw8 hN hR7
          simp only [Act.put, List.getElem_toArray, List.getElem_cons_succ, List.getElem_cons_zero, List.setIfInBounds_toArray, List.set_cons_zero, List.set_cons_succ]
          refine wpAnyS_ready (rs := [11]) (by kernel_rfl) (by simp) ?_
          refine AllReadyS.cons rfl (fun K hK => ?_) AllReadyS.nil
          rw [if_pos (by rfl)]
          refine wp_store_row 73 (.tmp 12) (.tmp 41) rfl N X1 rfl rfl 73 _ HX8.out HE.out.2.2.1 HE.out.2.2.2.1 HE.out.2.2.2.2 ?_
          refine hK.out _ _ (fun _ => HSS.out _ (HK8.out.trans ((setRow_keptR w8 N X1).more (fun b _ e => by rw [e]; exact ⟨HNR.out.2, HNR.out.1⟩)))) ?_
          clear hK K
          simp only [Act.put, List.getElem_toArray, List.getElem_cons_succ, List.getElem_cons_zero, List.setIfInBounds_toArray, List.set_cons_zero, List.set_cons_succ]
          have HE2 := Lib.hid (And.intro HE.out.1 (And.intro HE.out.2.1 (HK8.out.trans ((setRow_keptR w8 N X1).more (fun b _ e => by rw [e]; exact ⟨HNR.out.2, HNR.out.1⟩)))))
          clear HE HK8 HX8
          generalize w8.setRow N X1 = w9 at *
          refine wpAnyS_ready (rs := [12]) (by kernel_rfl) (by simp) ?_
          refine AllReadyS.cons rfl (fun K hK => ?_) AllReadyS.nil
          go_simp
          refine hK.out _ _ (fun h => absurd h (by decide)) ?_
          clear hK K
          simp only [Act.put, List.getElem_toArray, List.getElem_cons_succ, List.getElem_cons_zero, List.setIfInBounds_toArray, List.set_cons_zero, List.set_cons_succ]
          refine wpAnyS_done (by kernel_rfl) ?_ _
          go_wp2_with fail
          go_meet
          exact ⟨rfl, N, X1, rfl, HE2.out⟩
        · go_simp
          have hx7 := heap_alloc_new w6 (.cells ZR 73)
          have hb7 := ba (br w6) (.cells ZR 73)
          obtain ⟨N, hN⟩ : ∃ z, z = w6.heap.size := ⟨_, rfl⟩
          rw [← hN] at hx7 ⊢
          obtain ⟨w7, hw7⟩ : ∃ z, z = w6.alloc (.cells ZR 73) := ⟨_, rfl⟩
          rw [← hw7] at hx7 hb7 ⊢
          have HK7 := Lib.hid (show Kept (fun b => w.heap.size ≤ b ∧ b ≠ R) wr w7 from HK0.out.trans (Kept.of_below hb7))
          have hR6 : R < w6.heap.size := Nat.lt_of_lt_of_le HRR.out.1 H6.out.size
          have HX7 := Lib.hid hx7
          have HB7 := Lib.hid (bt H6.out hb7)
          have HNN := Lib.hid (show N ≠ R ∧ w.heap.size ≤ N ∧ N < w7.heap.size ∧ wr.heap.size ≤ N from ⟨by omega, by have := HRR.out.2; omega, (Array.getElem?_eq_some_iff.1 hx7).1, by have := H6.out.size; omega⟩)
          refine hK.out _ _ (fun _ => HSS.out _ HK7.out) ?_
          clear hK K hx7 hb7 hw7 hN hR6
          simp only [Act.put, List.getElem_toArray, List.getElem_cons_succ, List.getElem_cons_zero, List.setIfInBounds_toArray, List.set_cons_zero, List.set_cons_succ]
          refine wpAnyS_ready (rs := [6]) (by kernel_rfl) (by simp) ?_
          refine AllReadyS.cons rfl (fun K hK => ?_) AllReadyS.nil
          go_simp
          refine (HPN.out w7 N HB7.out HNN.out.2.2.2 HNN.out.2.2.1).mono ?_
          rintro e w8 ⟨O1, S1, ua, uz, rfl, hp1, hkp⟩
          obtain ⟨X1, hX1⟩ : ∃ X, X = rfC S1 ua uz := ⟨_, rfl⟩
          rw [← hX1]
          have hx8 := hkp.keep (.inr rfl) HX7.out
          have HE := Lib.hid (HFIN.out w8 N X1 hx8 ⟨O1, S1, ua, uz, hp1, hX1⟩ HNN.out.1)
          have HNR := Lib.hid (show N ≠ R ∧ w.heap.size ≤ N from ⟨HNN.out.1, HNN.out.2.1⟩)
          have HX8 := Lib.hid hx8
          have HK8 := Lib.hid (show Kept (fun b => w.heap.size ≤ b ∧ b ≠ R) wr w8 from by
            obtain ⟨T, t1, t2, t3⟩ := hkp
            refine HK7.out.trans ⟨t1.os, t1.tape, t1.output, t1.size, fun i hi hn => ?_⟩
            by_cases e : i = R
            · exact t1.block i hi (t3 i (.inl e))
            · have hlt : i < w.heap.size := by
                rcases Nat.lt_or_ge i w.heap.size with g | g
                · exact g
                · exact absurd ⟨g, e⟩ hn
              exact (hp1.bel.block i hlt).trans ((bt HSZ.out.2.2.1.out HB7.out).block i hlt).symm)
          clear hp1 hkp hX1 hx8
          refine hK.out _ _ (fun _ => HSS.out _ HK8.out) ?_
          clear hK K
          simp only [Act.put, List.getElem_toArray, List.getElem_cons_succ, List.getElem_cons_zero, List.setIfInBounds_toArray, List.set_cons_zero, List.set_cons_succ]
          refine wpAnyS_take (i := 7) _ rfl (by kernel_rfl) (Or.inl ⟨by rfl, fun w' hS => by clear hS; go_simp; try with_reducible rfl⟩) (HSS.out _ HK8.out) ?_
          simp only [Act.put, List.getElem_toArray, List.getElem_cons_succ, List.getElem_cons_zero, List.setIfInBounds_toArray, List.set_cons_zero, List.set_cons_succ]
          refine wpAnyS_take (i := 8) _ rfl (by kernel_rfl) (Or.inl ⟨by rfl, fun w' hS => by clear hS; go_simp; try with_reducible rfl⟩) (HSS.out _ HK8.out) ?_
          simp only [Act.put, List.getElem_toArray, List.getElem_cons_succ, List.getElem_cons_zero, List.setIfInBounds_toArray, List.set_cons_zero, List.set_cons_succ]
          refine wpAnyS_take (i := 9) _ rfl (by kernel_rfl) (Or.inl ⟨by rfl, fun w' hS => by clear hS; go_simp; try with_reducible rfl⟩) (HSS.out _ HK8.out) ?_
          simp only [Act.put, List.getElem_toArray, List.getElem_cons_succ, List.getElem_cons_zero, List.setIfInBounds_toArray, List.set_cons_zero, List.set_cons_succ]
          refine wpAnyS_ready (rs := [11]) (by kernel_rfl) (by simp) ?_
          refine AllReadyS.cons rfl (fun K hK => ?_) AllReadyS.nil
          rw [if_pos (by rfl)]
          refine wp_store_row 73 (.tmp 12) (.tmp 41) rfl N X1 rfl rfl 73 _ HX8.out HE.out.2.2.1 HE.out.2.2.2.1 HE.out.2.2.2.2 ?_
          refine hK.out _ _ (fun _ => HSS.out _ (HK8.out.trans ((setRow_keptR w8 N X1).more (fun b _ e => by rw [e]; exact ⟨HNR.out.2, HNR.out.1⟩)))) ?_
          clear hK K
          simp only [Act.put, List.getElem_toArray, List.getElem_cons_succ, List.getElem_cons_zero, List.setIfInBounds_toArray, List.set_cons_zero, List.set_cons_succ]
          have HE2 := Lib.hid (And.intro HE.out.1 (And.intro HE.out.2.1 (HK8.out.trans ((setRow_keptR w8 N X1).more (fun b _ e => by rw [e]; exact ⟨HNR.out.2, HNR.out.1⟩)))))
          clear HE HK8 HX8
          generalize w8.setRow N X1 = w9 at *
          refine wpAnyS_ready (rs := [12]) (by kernel_rfl) (by simp) ?_
          refine AllReadyS.cons rfl (fun K hK => ?_) AllReadyS.nil
          go_simp
          refine hK.out _ _ (fun h => absurd h (by decide)) ?_
          clear hK K
          simp only [Act.put, List.getElem_toArray, List.getElem_cons_succ, List.getElem_cons_zero, List.setIfInBounds_toArray, List.set_cons_zero, List.set_cons_succ]
          refine wpAnyS_done (by kernel_rfl) ?_ _
          go_wp2_with fail
          go_meet
          exact ⟨rfl, N, X1, rfl, HE2.out⟩
      case rest =>
      obtain ⟨rfl, N, X1, rfl, hN, hM, hkc⟩ := hcut
      obtain ⟨O1, S1, ua, uz, hp, hX1⟩ := hM.ex
      have hxs := hM.size
      have hr0 := hkc.keep H2.out (fun e => e.2 rfl)
      have hXX : X.size = X1.size := by rw [HSZ.out.2.2.2, hxs.2.1]
      have hr1 := setRow_heap _ _ _ X1 _ _ hr0
      have hp1 : Pl w (wc.setRow R X1) B D Z (k + 1) O1 S1 ua uz (fun b => b = R) := hp.aside (setRow_keptR wc R X1) (calm_ref hr0 (by decide)) (fun b e => e)
      obtain ⟨wd, hwd⟩ : ∃ z, z = wc.setRow R X1 := ⟨_, rfl⟩
      rw [← hwd] at hr1 hp1
      have HN := Lib.hid (And.intro hN (And.intro hxs.1 (And.intro hr0 (And.intro hXX hxs.2.2.1))))
      have HX1 := Lib.hid hX1
      have HWD := Lib.hid hwd
      have HP := Lib.hid hp1
      have HR1 := Lib.hid hr1
      clear hM hp hN hX1 hxs hr0 hXX hr1 hp1 hwd hkc HPL HPN HSS HSZ HRR H2
      go_upto_region 10 with (fail)
      refine wp_region_lit ?_
      refine wpList_load_row rfl 73 (.tmp 12) rfl N rfl 73 X1 (0, 0) _ HN.out.1 Tryd.underlying73 rfl HN.out.2.1 ?_
      (try simp only [Act.put, List.setIfInBounds_toArray, List.set_cons_zero, List.set_cons_succ])
      refine wpList_store_row rfl 73 (.tmp 10) (.tmp 43) rfl R X1 rfl rfl 73 _ HN.out.2.2.1 HN.out.2.1 HN.out.2.2.2.1 HN.out.2.2.2.2 ?_
      simp only [Act.put]
      rw [← HWD.out]
      clear HWD
      refine wpList_nil ?_
      have hk4 : k + 1 ≤ 400 := by have := HK.out.2; omega
      have HK4 := Lib.hid hk4
      clear hk4
      go_upto_region 11 with (fail)
      obtain ⟨ls, hls⟩ : ∃ z, z = S1.ls := ⟨_, rfl⟩
      obtain ⟨lf, hlf⟩ : ∃ z, z = S1.lf := ⟨_, rfl⟩
      obtain ⟨cl, hcl⟩ : ∃ z, z = S1.c := ⟨_, rfl⟩
      have HSS := Lib.hid (show ∀ w', Below wd.heap.size wd w' → (w'.cell? ⟨B, 1, none⟩ = some (.pointer (some ⟨Z, 0, none⟩)) ∧ w'.cell? ⟨R, 67, none⟩ = some (.int .u64 (cl : Int))) ∧ w'.rangeAt R 0 X1.toList ∧ w'.rangeAt R 197 [.int .u64 (ls : Int), .int .i64 lf] from fun w' hb => by
        have h2 := (hb.block _ (Array.getElem?_eq_some_iff.1 HR1.out).1).trans HR1.out
        have e := HX1.out
        refine ⟨⟨(HP.out.below hb).cZ, (cell_of_row _ _ 67 _ _ _ h2).trans (by rw [e, hcl]; exact rf_c S1 ua uz)⟩, rangeAt_of h2 (fun j hj => by rw [Nat.zero_add]), ?_⟩
        have := rangeAt_of (o := 197) (ds := #[.int .u64 (ls : Int), .int .i64 lf]) h2 (fun j hj => by
          rw [e, hls, hlf]
          have hj2 : j < 2 := by simpa using hj
          rcases (by omega : j = 0 ∨ j = 1) with rfl | rfl
          · rfl
          · rfl)
        exact this)
      have HSZ := Lib.hid (show (Tryd.prog.info? 73).map (·.size) = some X1.toList.length ∧ (Tryd.prog.info? 38).map (·.size) = some [Value.int .u64 (ls : Int), .int .i64 lf].length from ⟨by rw [Array.length_toList]; exact HN.out.2.1, by kernel_rfl⟩)
      have HLS := Lib.hid (show ∀ W, Below wd.heap.size wd W → Calls Tryd.prog 22 #[.pointer (some ⟨B, 0, none⟩)] W fun e w' => e = .returned (.agg #[.int .u64 (ls : Int), .int .i64 lf]) ∧ Below W.heap.size W w' from fun W hb => by rw [hls, hlf]; exact (HP.out.below hb).last)
      have HCL := Lib.hid (show ∀ W, Below wd.heap.size wd W → Calls Tryd.prog 27 #[.pointer (some ⟨Z, 0, none⟩)] W fun e w' => e = .returned (.int .u64 (cl : Int)) ∧ Below W.heap.size W w' from fun W hb => by rw [hcl]; exact (HP.out.below hb).clock)
      have HRS := Lib.hid (show ∀ W, Below wd.heap.size wd W → Calls Tryd.prog 23 #[.pointer (some ⟨B, 0, none⟩)] W fun e w' => ∃ (u : Option Addr) (c : Nat) (L : List Msg), e = .returned (.slice u L.length c) ∧ MsgsAt w' (.slice u L.length c) L ∧ L.map core = O1.rest.map core ∧ Below W.heap.size W w' from fun W hb => (HP.out.below hb).rest HK4.out)
      have HRR := Lib.hid (show ∀ W, Below wd.heap.size wd W → Calls Tryd.prog 26 #[.agg X1] W fun e w' => ∃ (u : Option Addr) (c : Nat), e = .returned (.slice u (restR S1).length c) ∧ MsgsAt w' (.slice u (restR S1).length c) (restR S1) ∧ Below W.heap.size W w' from fun W hb => by rw [HX1.out]; exact (HP.out.below hb).restR HK4.out)
      have HCO := Lib.hid (show (restR S1).map core = O1.rest.map core from HP.out.ref.rest)
      have HLP := Lib.hid (show ∀ W, Below wd.heap.size wd W → Lp w B D Z R (k + 1) W from fun W hb => ⟨O1, S1, ua, uz, HP.out.below hb, by rw [← HX1.out]; exact (hb.block _ (Array.getElem?_eq_some_iff.1 HR1.out).1).trans HR1.out⟩)
      clear hls hlf hcl HP HX1 HR1 HN
      refine wp_region_mask (fun w' => (w'.cell? ⟨B, 1, none⟩ = some (.pointer (some ⟨Z, 0, none⟩)) ∧ w'.cell? ⟨R, 67, none⟩ = some (.int .u64 (cl : Int))) ∧ w'.rangeAt R 0 X1.toList ∧ w'.rangeAt R 197 [.int .u64 (ls : Int), .int .i64 lf]) 27 22 [true, true, true, true, false, true, true, false, false, false, false, false, false, false, false, false, false, false, false, false, false, false, false, false, false, false, false, false] #[true, true, true, true, false, true, true, false, false, false, false, false, false, false, false, false, false, false, false, false, false, false, false, false, false, false, false, false] (by kernel_rfl) (by kernel_rfl) (by kernel_rfl) (HSS.out _ (br wd).drew) ?_
      have H0 := Lib.hid (show Below wd.heap.size wd wd.drew from (br wd).drew)
      generalize wd.drew = v0 at *
      refine wpMask_take _ (Or.inl ⟨by rfl, fun w' hS => by clear hS; go_simp; try with_reducible rfl⟩) ?_
      simp only [Act.put, List.getElem_toArray, List.getElem_cons_succ, List.getElem_cons_zero, List.setIfInBounds_toArray, List.set_cons_zero, List.set_cons_succ]
      refine wpMask_take _ (Or.inl ⟨by rfl, fun w' hS => by clear hS; go_simp; try with_reducible rfl⟩) ?_
      simp only [Act.put, List.getElem_toArray, List.getElem_cons_succ, List.getElem_cons_zero, List.setIfInBounds_toArray, List.set_cons_zero, List.set_cons_succ]
      refine wpMask_take _ (Or.inl ⟨by rfl, fun w' hS => by clear hS; go_simp; try with_reducible rfl⟩) ?_
      simp only [Act.put, List.getElem_toArray, List.getElem_cons_succ, List.getElem_cons_zero, List.setIfInBounds_toArray, List.set_cons_zero, List.set_cons_succ]
      refine wpMask_take _ (Or.inl ⟨by rfl, fun w' hS => by clear hS; go_simp; try with_reducible rfl⟩) ?_
      simp only [Act.put, List.getElem_toArray, List.getElem_cons_succ, List.getElem_cons_zero, List.setIfInBounds_toArray, List.set_cons_zero, List.set_cons_succ]
      refine wpMask_skip ?_
      refine wpMask_take _ (Or.inl ⟨by rfl, fun w' hS => by clear hS; go_simp; try with_reducible rfl⟩) ?_
      simp only [Act.put, List.getElem_toArray, List.getElem_cons_succ, List.getElem_cons_zero, List.setIfInBounds_toArray, List.set_cons_zero, List.set_cons_succ]
      refine wpMask_take _ (yieldsIf_load_mid (by rfl) 38 (.tmp 49) rfl R 197 rfl [.int .u64 (ls : Int), .int .i64 lf] _ (fun w' hS => hS.2.2) Tryd.underlying38 rfl HSZ.out.2) ?_
      simp only [Act.put, List.getElem_toArray, List.getElem_cons_succ, List.getElem_cons_zero, List.setIfInBounds_toArray, List.set_cons_zero, List.set_cons_succ]
      iterate 21 refine wpMask_skip ?_
      refine wpMask_nil ?_
      refine wpAnyS_ready (rs := [4]) (by kernel_rfl) (by simp) ?_
      refine AllReadyS.cons rfl (fun K hK => ?_) AllReadyS.nil
      go_simp
      refine (HLS.out _ H0.out).mono ?_
      rintro e v1 ⟨rfl, hb9⟩
      have H1 := Lib.hid (bt H0.out hb9)
      refine hK.out _ _ (fun _ => HSS.out _ H1.out) ?_
      clear hK K hb9 
      simp only [Act.put, List.getElem_toArray, List.getElem_cons_succ, List.getElem_cons_zero, List.setIfInBounds_toArray, List.set_cons_zero, List.set_cons_succ]
      refine wpAnyS_take (i := 7) (.bool false) rfl (by kernel_rfl) (Or.inl ⟨by rfl, fun w' hS => by clear hS; go_simp; try with_reducible rfl⟩) (HSS.out _ H1.out) ?_
      simp only [Act.put, List.getElem_toArray, List.getElem_cons_succ, List.getElem_cons_zero, List.setIfInBounds_toArray, List.set_cons_zero, List.set_cons_succ]
      refine wpAnyS_take (i := 8) (.bool false) rfl (by kernel_rfl) (Or.inl ⟨by rfl, fun w' hS => by clear hS; go_simp; try with_reducible rfl⟩) (HSS.out _ H1.out) ?_
      simp only [Act.put, List.getElem_toArray, List.getElem_cons_succ, List.getElem_cons_zero, List.setIfInBounds_toArray, List.set_cons_zero, List.set_cons_succ]
      refine wpAnyS_take (i := 9) (.bool false) rfl (by kernel_rfl) (Or.inl ⟨by rfl, fun w' hS => by clear hS; go_simp; try with_reducible rfl⟩) (HSS.out _ H1.out) ?_
      simp only [Act.put, List.getElem_toArray, List.getElem_cons_succ, List.getElem_cons_zero, List.setIfInBounds_toArray, List.set_cons_zero, List.set_cons_succ]
      refine wpAnyS_take (i := 10) _ rfl (by kernel_rfl) (Or.inl ⟨by rfl, fun w' hS => by clear hS; go_simp; try with_reducible rfl⟩) (HSS.out _ H1.out) ?_
      simp only [Act.put, List.getElem_toArray, List.getElem_cons_succ, List.getElem_cons_zero, List.setIfInBounds_toArray, List.set_cons_zero, List.set_cons_succ]
      refine wpAnyS_take (i := 12) _ rfl (by kernel_rfl) (yieldsIf_load_mid (by rfl) 73 (.tmp 10) rfl R 0 rfl X1.toList _ (fun w' hS => hS.2.1) Tryd.underlying73 rfl HSZ.out.1) (HSS.out _ H1.out) ?_
      simp only [Act.put, List.getElem_toArray, List.getElem_cons_succ, List.getElem_cons_zero, List.setIfInBounds_toArray, List.set_cons_zero, List.set_cons_succ]
      simp only [Array.toArray_toList]
      refine wpAnyS_ready (rs := [11]) (by kernel_rfl) (by simp) ?_
      refine AllReadyS.cons rfl (fun K hK => ?_) AllReadyS.nil
      go_simp
      refine (HRS.out _ H1.out).mono ?_
      rintro e v2 ⟨u2, c2, L2, rfl, hm2, hc2, hb9⟩
      have HM2 := Lib.hid (And.intro hm2 hc2)
      clear hm2 hc2
      have H2b := Lib.hid (bt H1.out hb9)
      refine hK.out _ _ (fun _ => HSS.out _ H2b.out) ?_
      clear hK K hb9 
      simp only [Act.put, List.getElem_toArray, List.getElem_cons_succ, List.getElem_cons_zero, List.setIfInBounds_toArray, List.set_cons_zero, List.set_cons_succ]
      refine wpAnyS_ready (rs := [13]) (by kernel_rfl) (by simp) ?_
      refine AllReadyS.cons rfl (fun K hK => ?_) AllReadyS.nil
      go_simp
      refine (HRR.out _ H2b.out).mono ?_
      rintro e v3 ⟨u3, c3, rfl, hm3, hb9⟩
      have HAL := Lib.hid (show Calls Tryd.prog 11 #[.slice u2 L2.length c2, .slice u3 (restR S1).length c3] v3 fun e w' => e = .returned (.bool true) ∧ Below v3.heap.size v3 w' from by
        have := All_any _ _ L2 (restR S1) v3 (HM2.out.1.below hb9) hm3
        rw [allM_core (HM2.out.2.trans HCO.out.symm)] at this
        exact this)
      clear hm3
      have H3b := Lib.hid (bt H2b.out hb9)
      refine hK.out _ _ (fun _ => HSS.out _ H3b.out) ?_
      clear hK K hb9 
      simp only [Act.put, List.getElem_toArray, List.getElem_cons_succ, List.getElem_cons_zero, List.setIfInBounds_toArray, List.set_cons_zero, List.set_cons_succ]
      refine wpAnyS_ready (rs := [14]) (by kernel_rfl) (by simp) ?_
      refine AllReadyS.cons rfl (fun K hK => ?_) AllReadyS.nil
      go_simp
      refine HAL.out.mono ?_
      rintro e v4 ⟨rfl, hb9⟩
      have H4b := Lib.hid (bt H3b.out hb9)
      refine hK.out _ _ (fun _ => HSS.out _ H4b.out) ?_
      clear hK K hb9 HAL HM2
      simp only [Act.put, List.getElem_toArray, List.getElem_cons_succ, List.getElem_cons_zero, List.setIfInBounds_toArray, List.set_cons_zero, List.set_cons_succ]
      refine wpAnyS_take (i := 15) (.bool false) rfl (by kernel_rfl) (Or.inl ⟨by rfl, fun w' hS => by clear hS; go_simp; try with_reducible rfl⟩) (HSS.out _ H4b.out) ?_
      simp only [Act.put, List.getElem_toArray, List.getElem_cons_succ, List.getElem_cons_zero, List.setIfInBounds_toArray, List.set_cons_zero, List.set_cons_succ]
      refine wpAnyS_take (i := 16) (.bool false) rfl (by kernel_rfl) (Or.inl ⟨by rfl, fun w' hS => by clear hS; go_simp; try with_reducible rfl⟩) (HSS.out _ H4b.out) ?_
      simp only [Act.put, List.getElem_toArray, List.getElem_cons_succ, List.getElem_cons_zero, List.setIfInBounds_toArray, List.set_cons_zero, List.set_cons_succ]
      refine wpAnyS_take (i := 17) (.bool false) rfl (by kernel_rfl) (Or.inl ⟨by rfl, fun w' hS => by clear hS; go_simp; try with_reducible rfl⟩) (HSS.out _ H4b.out) ?_
      simp only [Act.put, List.getElem_toArray, List.getElem_cons_succ, List.getElem_cons_zero, List.setIfInBounds_toArray, List.set_cons_zero, List.set_cons_succ]
      refine wpAnyS_take (i := 18) _ rfl (by kernel_rfl) (Or.inl ⟨by rfl, fun w' hS => by clear hS; go_simp; try with_reducible rfl⟩) (HSS.out _ H4b.out) ?_
      simp only [Act.put, List.getElem_toArray, List.getElem_cons_succ, List.getElem_cons_zero, List.setIfInBounds_toArray, List.set_cons_zero, List.set_cons_succ]
      refine wpAnyS_take (i := 19) _ rfl (by kernel_rfl) (Or.inl ⟨by rfl, fun w' hS => by clear hS; go_simp; try with_reducible rfl⟩) (HSS.out _ H4b.out) ?_
      simp only [Act.put, List.getElem_toArray, List.getElem_cons_succ, List.getElem_cons_zero, List.setIfInBounds_toArray, List.set_cons_zero, List.set_cons_succ]
      refine wpAnyS_take (i := 20) _ rfl (by kernel_rfl) (Or.inl ⟨by rfl, fun w' hS => by clear hS; go_simp; try with_reducible rfl⟩) (HSS.out _ H4b.out) ?_
      simp only [Act.put, List.getElem_toArray, List.getElem_cons_succ, List.getElem_cons_zero, List.setIfInBounds_toArray, List.set_cons_zero, List.set_cons_succ]
      refine wpAnyS_take (i := 21) _ rfl (by kernel_rfl) (Or.inl ⟨by rfl, fun w' hS => by (try dsimp only at hS); replace hS := hS.1.1; go_simp; try with_reducible rfl⟩) (HSS.out _ H4b.out) ?_
      simp only [Act.put, List.getElem_toArray, List.getElem_cons_succ, List.getElem_cons_zero, List.setIfInBounds_toArray, List.set_cons_zero, List.set_cons_succ]
      refine wpAnyS_take (i := 23) _ rfl (by kernel_rfl) (Or.inl ⟨by rfl, fun w' hS => by clear hS; go_simp; try with_reducible rfl⟩) (HSS.out _ H4b.out) ?_
      simp only [Act.put, List.getElem_toArray, List.getElem_cons_succ, List.getElem_cons_zero, List.setIfInBounds_toArray, List.set_cons_zero, List.set_cons_succ]
      refine wpAnyS_take (i := 24) _ rfl (by kernel_rfl) (Or.inl ⟨by rfl, fun w' hS => by clear hS; go_simp; try with_reducible rfl⟩) (HSS.out _ H4b.out) ?_
      simp only [Act.put, List.getElem_toArray, List.getElem_cons_succ, List.getElem_cons_zero, List.setIfInBounds_toArray, List.set_cons_zero, List.set_cons_succ]
      refine wpAnyS_take (i := 25) _ rfl (by kernel_rfl) (Or.inl ⟨by rfl, fun w' hS => by (try dsimp only at hS); replace hS := hS.1.2; go_simp; try with_reducible rfl⟩) (HSS.out _ H4b.out) ?_
      simp only [Act.put, List.getElem_toArray, List.getElem_cons_succ, List.getElem_cons_zero, List.setIfInBounds_toArray, List.set_cons_zero, List.set_cons_succ]
      refine wpAnyS_ready (rs := [22]) (by kernel_rfl) (by simp) ?_
      refine AllReadyS.cons rfl (fun K hK => ?_) AllReadyS.nil
      go_simp
      refine (HCL.out _ H4b.out).mono ?_
      rintro e v5 ⟨rfl, hb9⟩
      have H5b := Lib.hid (bt H4b.out hb9)
      refine hK.out _ _ (fun _ => HSS.out _ H5b.out) ?_
      clear hK K hb9 
      simp only [Act.put, List.getElem_toArray, List.getElem_cons_succ, List.getElem_cons_zero, List.setIfInBounds_toArray, List.set_cons_zero, List.set_cons_succ]
      have hcc : (((cl : Int)) == ((cl : Int))) = true := by simp
      refine wpAnyS_take (i := 26) (.bool false) rfl (by kernel_rfl) (Or.inl ⟨by rfl, fun w' hS => by clear hS; go_simp; try with_reducible rfl⟩) (HSS.out _ H5b.out) ?_
      simp only [Act.put, List.getElem_toArray, List.getElem_cons_succ, List.getElem_cons_zero, List.setIfInBounds_toArray, List.set_cons_zero, List.set_cons_succ]
      refine wpAnyS_ready (rs := [27]) (by kernel_rfl) (by simp) ?_
      refine AllReadyS.cons rfl (fun K hK => ?_) AllReadyS.nil
      go_simp
      refine hK.out _ _ (fun h => absurd h (by decide)) ?_
      clear hK K
      simp only [Act.put, List.getElem_toArray, List.getElem_cons_succ, List.getElem_cons_zero, List.setIfInBounds_toArray, List.set_cons_zero, List.set_cons_succ]
      refine wpAnyS_done (by kernel_rfl) ?_ _
      have HE := Lib.hid (HLP.out _ H5b.out)
      clear HLP HSS HSZ HLS HCL HRS HRR HCO
      go_wp2_with fail
      exact ⟨⟨k + 1, by have := HK.out.1; omega, by go_num, HE⟩, by have := HK.out.1; simp [intOf]; omega⟩
    · have hbool : decide ((k : Int) < (l.length : Int)) = false := by simpa using hlt
      have hbool2 : decide (k < l.length) = false := by simpa using hlt
      obtain ⟨O, S, va, vz, h1, h2⟩ := HS.out.ex
      have HP := Lib.hid h1
      obtain ⟨K, hK⟩ : ∃ K, K = dnN n := ⟨_, rfl⟩
      have hkn : max 0 (min n 64) = (K : Int) := by rw [hK]; unfold dnN; omega
      have hK64 : K ≤ 64 := by rw [hK]; unfold dnN; omega
      have hal : Tryd.prog.arrayLen 58 = 64 := by kernel_rfl
      have hsl : ∀ W : World, (Instr.sliceAt 58 (.pointer (some ⟨R, 133, none⟩)) none (some (.int .i64 (K : Int))) none).run Tryd.prog W = .ok (.slice (some ⟨R, 133, none⟩) K 64) W := fun W => by
        rw [run_sliceAt_array_h W 58 ⟨R, 133, none⟩ (by kernel_rfl) .i64 (K : Int) (by omega) (by rw [hal]; omega), hal]
        rfl
      have hRD : ∀ W : World, Below wr.heap.size wr W → Reads W W.heap.size 1 (some ⟨R, 133, none⟩) K (numsM ((List.range K).map S.dn)) := fun W hb => by
        have hR2 := (hb.block _ (Array.getElem?_eq_some_iff.1 h2).1).trans h2
        refine ⟨by rw [numsM_len]; simp, fun _ => ⟨_, rfl, (Array.getElem?_eq_some_iff.1 hR2).1, fun j u hu => ?_⟩⟩
        unfold numsM at hu
        rw [List.map_map, List.getElem?_map] at hu
        by_cases hj : j < K
        · rw [List.getElem?_range hj] at hu
          injection hu with hu
          rw [addr_add, ← hu, cell_of_row _ _ (133 + j) _ _ _ hR2, rf_dn _ _ _ (by omega)]
          rfl
        · rw [List.getElem?_eq_none (by simp; omega)] at hu
          cases hu
      have HRD := Lib.hid hRD
      have HDN := Lib.hid (h1.dones n)
      rw [← hK] at HDN
      have HD0 := Lib.hid (show ∀ W, Below wr.heap.size wr W → ∀ p : Int, ¬ (0 ≤ p ∧ p < 64) → Calls Tryd.prog 30 #[.pointer (some ⟨B, 0, none⟩), .int .i64 p] W fun e w' => e = .returned (.int .u32 0) ∧ Below W.heap.size W w' from fun W hb p hp => (h1.below hb).done0 p hp)
      have HB0 := Lib.hid h1.bel
      have HKK := Lib.hid hK64
      clear h1 h2 hK hK64 hal hRD HP HS HI hlt hk
      go_wp2_with fail
      refine HDN.out.mono ?_
      rintro e w7 ⟨⟨ad7, cap7, rfl, ho7⟩, hb7⟩
      have hlen : ((List.range K).map S.dn).length = K := by simp
      have HV := Lib.hid (show ∀ W : World, Below w7.heap.size w7 W → Calls Tryd.prog 29 #[.slice ad7 K cap7, .slice (some ⟨R, 133, none⟩) K 64] W fun e w' => e = .returned (.bool true) ∧ Below W.heap.size W w' from fun W hb => by
        have := rVectors_any ((List.range K).map S.dn) cap7 64 ad7 (some ⟨R, 133, none⟩) W (reads_own ho7 hb) (by rw [hlen]; exact HRD.out W (bt hb7 hb)) (by rw [hlen]; have := HKK.out; omega) (addr_own ho7) (fun p e => by injection e with e; rw [← e])
        rw [hlen] at this
        exact this)
      have HB7 := Lib.hid hb7
      rw [hlen]
      clear ho7 hb7 HDN HRD hlen
      go_wp2_with fail
      refine (HV.out _ (br _)).mono ?_
      rintro e w8 ⟨rfl, hb8⟩
      have HB8 := Lib.hid (bt HB7.out hb8)
      clear hb8 HV HB7
      go_wp2_with fail
      refine (HD0.out _ HB8.out (-1) (by omega)).mono ?_
      rintro e w9 ⟨rfl, hb9⟩
      have HB9 := Lib.hid (bt HB8.out hb9)
      clear hb9 HB8
      go_wp2_with fail
      refine (HD0.out _ HB9.out 64 (by omega)).mono ?_
      rintro e w10 ⟨rfl, hb10⟩
      have HB10 := Lib.hid (bt HB0.out (bt HB9.out hb10))
      clear hb10 HB9 HD0 HB0
      go_wp2_with fail
      go_ret
      exact ⟨rfl, HB10.out⟩
end Go.Proofs.YtgjlcjbmcnofiaaDoor
namespace Go.Proofs.YtgjlcjbmcnofiaaDoor
open Go.ChangeShapes Go.WideShapes Go.ChangeAt Go.WideMaps Go.WideElems Go.RowKit
set_option linter.unusedVariables false
set_option linter.unusedSimpArgs false
def laidB : List (String × DataW Unit) := [("math/bits.deBruijn64tab", Rows.laid_math_bits_deBruijn64tab)]
theorem gTab : Tryd.prog.globalNamed "math/bits.deBruijn64tab" = some 0 := by kernel_rfl
theorem tTab : (Tryd.prog.globals[0]?).map (·.type) = some 162 := by kernel_rfl
theorem door_met (os : Os) (args : Array Value) : laidMetH Tryd.prog laidB ((World.doorLaid Tryd.prog 400 os).forCall (fun _ _ => 0) ⟨#[], args, []⟩).memory :=
  laidMetH_of_parts3 (fuel := 8) (laidMet_of_run' 8 (by kernel_rfl) (by kernel_rfl)) (by kernel_rfl) (by kernel_rfl)
set_option maxRecDepth 100000 in
theorem tab_of_laid {W : World} (h : laidMetH Tryd.prog laidB W) : Tab W := by
  rw [MakeChecks.laidMetH_plain _ _ _ (by kernel_rfl)] at h
  obtain ⟨ps, ⟨g0, t0, cs0, f0, p0, q0, hg0, ht0, hv0, hd0, _, _⟩, _, _⟩ := h
  obtain rfl := Option.some.inj (gTab.symm.trans hg0)
  obtain rfl := Option.some.inj (tTab.symm.trans ht0)
  obtain ⟨xs, m1, rfl, hx1, hlen, hn3, hel⟩ := DataW.trod_array Tryd.underlying162 hd0
  have c1 : Tryd.prog.cellsOf 5 = 1 := by kernel_rfl
  simp only [Prod.mk.injEq] at hx1
  have hD : (DataW.agg (xs.map (·.1)) : DataW Unit) = Rows.laid_math_bits_deBruijn64tab := hx1.1.symm
  have hxs : xs.map (·.1) = Lib.deBruijn64tab.map fun n : Nat => DataW.lit (.int .u8 (n : Int)) := by
    have e : (Rows.laid_math_bits_deBruijn64tab : DataW Unit) = .agg (Lib.deBruijn64tab.map fun n : Nat => DataW.lit (.int .u8 (n : Int))) := by kernel_rfl
    rw [e] at hD
    injection hD
  have hl : Lib.deBruijn64tab.length = 64 := by kernel_rfl
  intro j hj
  rw [hl] at hj
  have h0 := hel j hj
  rw [c1, Nat.mul_one] at h0
  have hj2 : j < xs.length := by omega
  rw [List.getElem?_eq_getElem hj2] at h0
  obtain ⟨k, e1, e2, _⟩ := DataW.trod_int Tryd.underlying5 h0
  have e3 : (xs.map (·.1))[j]? = some (.lit (.int .u8 k)) := by rw [List.getElem?_map, List.getElem?_eq_getElem hj2, e2]; rfl
  rw [hxs, List.getElem?_map, List.getElem?_eq_getElem (by omega)] at e3
  have e4 : ((Lib.deBruijn64tab[j]'(by omega) : Nat) : Int) = k := by simpa using e3
  have e5 : Lib.deBruijn64tab.getD j 0 = Lib.deBruijn64tab[j]'(by omega) := by simp [hl, hj]
  rw [e5, e4]
  have hc := World.var?_cell hg0 hv0 j
  refine hc.trans ?_
  have e6 : cs0.toList[j]? = some (.int .u8 k) := by
    have : ((cs0.toList.drop j).take 1)[0]? = some (.int .u8 k) := by rw [e1]; rfl
    rw [List.getElem?_take_of_lt (by omega), List.getElem?_drop] at this
    simpa using this
  simpa using e6
section
variable {H : Type} {enc : TypeId × Value → H} {base : Nat} {spare : Nat → Bool} {held : Bool}
set_option maxRecDepth 100000 in
theorem orderTrims_row (a0 : Int) (v1 : Value) (W : World) {r : Reach} {b0 : Nat} {d : DataW H} {p : List MemPlace} (h0 : 0 ≤ a0 ∧ a0 ≤ 18446744073709551615)
    (hv : Value.okWide Tryd.prog W r b0 44 v1) (h1 : DataW.Trod enc Tryd.prog W base spare held 44 v1 d p) (hL : laidMetH Tryd.prog laidB W) :
    Calls Tryd.prog 5 #[.int .u64 a0, v1] W fun e w' => e = .returned (.bool true) ∧ Below W.heap.size W w' := by
  obtain ⟨n, rfl⟩ := Int.eq_ofNat_of_zero_le h0.1
  obtain ⟨l, hl⟩ := acts_arg hv h1
  exact law_orderTrims n v1 l W (by omega) (tab_of_laid hL) hl
end
end Go.Proofs.YtgjlcjbmcnofiaaDoor
namespace Go.Proofs.YtgjlcjbmcnofiaaDoor
open Go.ChangeShapes Go.WideShapes Go.ChangeAt Go.WideMaps Go.WideElems Go.RowKit
set_option linter.unusedVariables false
set_option linter.unusedSimpArgs false
section
variable {H : Type} {enc : TypeId × Value → H} {base : Nat} {spare : Nat → Bool} {held : Bool}
set_option maxRecDepth 100000 in
theorem orderPlays_row (a0 : Int) (a1 : Int) (v2 : Value) (a3 : Int) (W : World) {r : Reach} {b0 : Nat} {d : DataW H} {p : List MemPlace} (h0 : -9223372036854775808 ≤ a0 ∧ a0 ≤ 9223372036854775807) (h1 : 0 ≤ a1 ∧ a1 ≤ 18446744073709551615)
    (hv : Value.okWide Tryd.prog W r b0 44 v2) (h2 : DataW.Trod enc Tryd.prog W base spare held 44 v2 d p) (h3 : -9223372036854775808 ≤ a3 ∧ a3 ≤ 9223372036854775807) (hL : laidMetH Tryd.prog laidB W) :
    Calls Tryd.prog 6 #[.int .i64 a0, .int .u64 a1, v2, .int .i64 a3] W fun e w' => e = .returned (.bool true) ∧ Below W.heap.size W w' := by
  obtain ⟨n, rfl⟩ := Int.eq_ofNat_of_zero_le h1.1
  obtain ⟨l, hl⟩ := acts_arg hv h2
  exact law_orderPlays a0 n v2 l a3 W (by omega) (tab_of_laid hL) hl
end
end Go.Proofs.YtgjlcjbmcnofiaaDoor
