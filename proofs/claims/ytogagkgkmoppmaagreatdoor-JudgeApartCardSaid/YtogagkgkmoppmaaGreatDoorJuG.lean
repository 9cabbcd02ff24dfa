/-
  The judge: a configuration is entered.
  Conditions: those that each theorem names.
-/
import Derived.Test.YtogagkgkmoppmaaGreatDoorZdBZs
import Derived.Deep.CutBlock
namespace Go.Proofs.YtogagkgkmoppmaaGreatDoor
set_option linter.unusedVariables false
set_option linter.unusedSimpArgs false
open Go.RowKit GM
theorem info51 : (Tryz.prog.info? 51).map (fun i => (i.zero, i.size, i.bytes)) = some (some (.pointer none), 1, 8) := by kernel_rfl
set_option maxRecDepth 100000 in
set_option maxHeartbeats 16000000 in
theorem jregular_any {wB w : World} {g o n : Nat} {l : List Ev} {nm : Nat → List NameK} {M : JM} {R : List Pc} (h : At wB (jparts g o l M ++ R) w) (hT : Tr wB g o l nm) (hJ : JOk g o l n M) (hn : n ≤ 5000) (i : Nat) (x : Ev) (hx : l[i]? = some x) (lv : Bool) :
    Calls Tryz.prog 18 #[.pointer (some ⟨M.h.T, 0, none⟩), .pointer (some ⟨g, o + i * 19, none⟩), .bool lv, .map (some M.h.nb)] w fun e w' => e = .returned (.tuple #[]) ∧ JTo wB g o l R (n + 1) M.h ((projJ M).regular l i x lv (get M.now x.proc)) w' := by
  have HH := Lib.hid (And.intro h (And.intro hT (And.intro hJ (And.intro hn hx))))
  have hTw := hT.below h.bel
  have e1 := hTw.cell hx 1 (v := .int .i64 x.proc) rfl
  have e2 := hTw.cell hx 2 (v := .int .u64 (x.ce : Int)) rfl
  have e3 := hTw.cell hx 3 (v := .int .i64 x.cr) rfl
  have e6 := hTw.cell hx 6 (v := .int .u64 (x.mem : Int)) rfl
  obtain ⟨bfo, hbfo⟩ : ∃ b, b = get M.now x.proc := ⟨_, rfl⟩
  obtain ⟨pbo, hpbo⟩ : ∃ b, b = pbOf M bfo := ⟨_, rfl⟩
  have hnw : ∀ y : Bel w, (Instr.lookup 67 (.map (some M.h.nb)) (.int .i64 x.proc) false).run Tryz.prog y.val = .ok (.pointer (pbo.map fun b => ⟨b, 0, none⟩)) y.val := fun y => by
    rw [now_lookJ (h.below y.prop).own, ← hbfo, sV_pb, ← hpbo]
  obtain ⟨pv, hpv⟩ : ∃ v, v = pbo.map fun b => (⟨b, 0, none⟩ : Addr) := ⟨_, rfl⟩
  rw [← hpv] at hnw
  rw [← hbfo]
  have HBF := Lib.hid (And.intro hbfo (And.intro hpbo hpv))
  obtain ⟨tE, htE⟩ : ∃ t, t = (projJ M).regular l i x lv bfo := ⟨_, rfl⟩
  rw [← htE]
  have HTE := Lib.hid htE
  obtain ⟨TT, hTT⟩ : ∃ T, T = M.h.T := ⟨_, rfl⟩
  obtain ⟨nb, hnb⟩ : ∃ T, T = M.h.nb := ⟨_, rfl⟩
  have HTT := Lib.hid (And.intro hTT hnb)
  rw [← hTT, ← hnb]
  rw [← hnb] at hnw
  clear h hT hJ hn hx hTw hbfo hpbo hpv htE hTT hnb
  go_enter Tryz.func18, Tryz.ntmps18
  go_upto_region 0 with (fail)
  refine wp_region_bel_tail 19 (by kernel_rfl) (by kernel_rfl) ?_
  simp only [List.take_succ_cons, List.take_zero, List.drop_succ_cons, List.drop_zero]
  repeat (go_big_quiet_step ((fail)))
  refine wpQuiet_nil ?_
  intro w1 hw1
  have h1 := HH.out.1.below (bel_out hw1)
  clear hw1 e1 e2 e3 e6 hnw
  obtain ⟨S, hS⟩ : ∃ S, S = w1.heap.size := ⟨_, rfl⟩
  obtain ⟨w2, hw2⟩ : ∃ w2, w2 = w1.alloc (.cells #[.int .i64 x.proc, .int .u64 (x.ce : Int), .int .i64 x.cr, .int .u64 (x.mem : Int), .slice none 0 0, .pointer none, .pointer none, .pointer none, .int .i64 0, .pointer none, .slice none 0 0, .bool false, .pointer pv] 56) := ⟨_, rfl⟩
  have H2 := Lib.hid (show JMid wB g o l (sP g o l (newX S x bfo pbo) ++ R) n M (projJ M) w2 from by
    have := new_stayJ (g := g) (o := o) (l := l) h1 x bfo pbo
    rw [← hS] at this
    refine ⟨M, (At.perm (L := sP g o l (newX S x bfo pbo) ++ (jparts g o l M ++ R)) ?_ (List.perm_append_comm_assoc _ _ _)), HH.out.2.2.1, rfl, rfl, rfl, rfl, rfl⟩
    rw [hw2, HBF.out.2.2]
    exact this)
  have HW2 := Lib.hid (And.intro hw2 hS)
  clear hw2 hS h1
  go_upto_region 1 with (fail)
  rw [← HW2.out.1, ← HW2.out.2]
  clear HW2
  -- is it live, and a member?
  obtain ⟨RR, hRR⟩ : ∃ RR, RR = sP g o l (newX S x bfo pbo) ++ R := ⟨_, rfl⟩
  rw [← hRR] at H2
  have HRR := Lib.hid hRR
  clear hRR
  have HST := Lib.hid (show ∀ (t : J) (W : World), JMid wB g o l RR n M t W → W.heap[S]? = some (.cells (jsC g o (newX S x bfo pbo)) 56 (0, 0)) from fun t W ⟨M', ha, _⟩ => by
    rw [HRR.out] at ha
    exact ha.own.ok (sCells g o (newX S x bfo pbo)) (List.mem_append_right _ (by simp [sP])))
  have HEV := Lib.hid (show ∀ (t : J) (W : World), JMid wB g o l RR n M t W → Tr W g o l nm from fun t W hm => HH.out.2.1.below hm.bel)
  go_cut [] (fun wx => JMid wB g o l RR n M ((projJ M).br 1 (!lv || !hasB x.mem x.proc)) wx)
  case first =>
    --{
    as_aux_lemma =>
      have s3 : ∀ y : Bel w2, y.val.cell? ⟨S, 3, none⟩ = some (.int .u64 (x.mem : Int)) := Bel.cell (cell_of_row _ _ 3 _ _ _ (HST.out _ _ H2.out)) (Array.getElem?_eq_some_iff.1 (HST.out _ _ H2.out)).1
      have x1 := (HEV.out _ _ H2.out).cell HH.out.2.2.2.2 1 (v := .int .i64 x.proc) rfl
      have HBR := Lib.hid (H2.out.brk 1)
      rw [← HTT.out.1] at HBR
      cases lv
      · refine wp_region_bel_tail 15 (by kernel_rfl) (by kernel_rfl) ?_
        simp only [List.take_succ_cons, List.take_zero, List.drop_succ_cons, List.drop_zero]
        repeat (go_big_quiet_step ((go_at_call 50; exact bel_same (setHas_any _ _ _))))
        refine wpQuiet_nil ?_
        intro w4 hw4
        have HC := Lib.hid (HBR.out w4 (bel_out hw4) true)
        clear hw4 x1 s3 HBR
        go_wp2_with fail
        refine HC.out.mono ?_
        rintro e w5 ⟨rfl, hE⟩
        have HE := Lib.hid hE
        clear hE HC
        go_wp2_with fail
        go_meet
        exact HE.out
      · refine wp_region_bel_tail 15 (by kernel_rfl) (by kernel_rfl) ?_
        simp only [List.take_succ_cons, List.take_zero, List.drop_succ_cons, List.drop_zero]
        repeat (go_big_quiet_step ((go_at_call 50; exact bel_same (setHas_any _ _ _))))
        refine wpQuiet_nil ?_
        intro w4 hw4
        have HC := Lib.hid (HBR.out w4 (bel_out hw4) (!hasB x.mem x.proc))
        clear hw4 x1 s3 HBR
        go_wp2_with fail
        refine HC.out.mono ?_
        rintro e w5 ⟨rfl, hE⟩
        have HE := Lib.hid hE
        clear hE HC
        go_wp2_with fail
        go_meet
        exact HE.out
    --}
  case rest =>
  obtain ⟨w3, rfl⟩ : ∃ z, z = wc := ⟨_, rfl⟩
  have H3 := Lib.hid hcut
  clear hcut H2
  have HT1 := Lib.hid (show tE = ((((projJ M).br 1 (!lv || !hasB x.mem x.proc)).dups x (projJ M).stays).went l x i bfo).enter x bfo from HTE.out)
  obtain ⟨t1, ht1⟩ : ∃ t, t = (projJ M).br 1 (!lv || !hasB x.mem x.proc) := ⟨_, rfl⟩
  have ht1s : t1.stays = (projJ M).stays := by rw [ht1]; exact ((projJ M).br_stays 1 _).1
  rw [← ht1] at H3 HT1
  have HT1S := Lib.hid (And.intro ht1s ht1)
  clear ht1s ht1 HTE
  obtain ⟨ns, hns⟩ : ∃ n, n = M.stays.length := ⟨_, rfl⟩
  obtain ⟨sa, hsa⟩ : ∃ sa, sa = M.sa := ⟨_, rfl⟩
  obtain ⟨sc, hsc⟩ : ∃ sc, sc = M.sc := ⟨_, rfl⟩
  have hTc : ∀ (t : J) (W : World), JMid wB g o l RR n M t W → W.heap[TT]? = some (.cells #[.slice M.h.la M.h.ll M.h.lc, .slice sa ns sc, .map (some M.h.bb), .int .i64 t.named] 48 (0, 0)) := fun t W ⟨M', a1, a2, a3, a4, a5, a6, a7⟩ => by
    have hl := congrArg List.length a5
    simp only [List.length_map] at hl
    have hc := jown_tr a1.own
    rw [a4] at hc
    rw [HTT.out.1, hc, hsa, hsc, hns, ← a3]
    unfold trC
    rw [a4, a6, a7, hl]
    rfl
  have HTC := Lib.hid hTc
  have c1 : w3.cell? ⟨TT, 1, none⟩ = some (.slice sa ns sc) := cell_of_row _ _ 1 _ _ _ (HTC.out _ _ H3.out)
  have hn1 : ns ≤ 10000 := by have := HH.out.2.2.1.n; have := HH.out.2.2.2.1; omega
  have HN := Lib.hid (And.intro hns (And.intro hsa hsc))
  clear hns hsa hsc hTc
  go_upto_block 0 with (fail)
  go_cut [] (fun wx => JMid wB g o l RR n M (t1.dups x (projJ M).stays) wx)
  case first =>
    --{
    as_aux_lemma =>
      clear c1
      go_wp2_with fail
      go_loopw [53] (fun i wr => ∃ j : Nat, j ≤ ns ∧ i = .int .i64 (j : Int) ∧ Hid (JMid wB g o l RR n M (t1.dups x ((projJ M).stays.take j)) wr)) (fun i _ => ns - (intOf i).toNat)
      case atStart => exact ⟨0, by omega, rfl, H3⟩
      case round =>
        obtain ⟨j, hj, rfl, HW⟩ := hrel
        by_cases hlt : j < ns
        · have hd : decide ((j : Int) < (ns : Int)) = true := by simpa using hlt
          have hi1 : (j : Int) < (ns : Int) := by omega
          have hjl : j < M.stays.length := by rw [← HN.out.1]; exact hlt
          obtain ⟨s, hs1, y, hys, hyb, hyo, hyc, gb, hg0, hgl, hgc0⟩ := HW.out.stay hjl
          have hg : sa = some ⟨gb, 0, none⟩ := HN.out.2.1.trans hg0
          subst hg
          have hgc : wr.cell? ⟨gb, j, none⟩ = some (.pointer (some ⟨M.stays[j].b, 0, none⟩)) := hgc0
          obtain ⟨So, hSo⟩ : ∃ b, b = M.stays[j].b := ⟨_, rfl⟩
          rw [← hSo] at hyc hgc
          have hsj : (projJ M).stays[j]? = some s := by
            rw [← hs1, (dups_stays x _ t1).1, HT1S.out.1]
          have hsl : j < (projJ M).stays.length := (List.getElem?_eq_some_iff.1 hsj).1
          have HSTP := Lib.hid (show t1.dups x ((projJ M).stays.take (j + 1)) = (t1.dups x ((projJ M).stays.take j)).br 1 (dupJ x s) from by
            rw [List.take_succ_eq_append_getElem hsl, (List.getElem?_eq_some_iff.1 hsj).2, dups_snoc])
          have HBR := Lib.hid (HW.out.brk 1)
          rw [← HTT.out.1] at HBR
          have hstS := HST.out _ _ HW.out
          have lso := (Array.getElem?_eq_some_iff.1 hyc).1
          have lS := (Array.getElem?_eq_some_iff.1 hstS).1
          have o0 : ∀ z : Bel wr, z.val.cell? ⟨So, 0, none⟩ = some (.int .i64 s.proc) := Bel.cell (by rw [← hys]; exact cell_of_row _ _ 0 _ _ _ hyc) lso
          have o1 : ∀ z : Bel wr, z.val.cell? ⟨So, 1, none⟩ = some (.int .u64 s.cf.1) := Bel.cell (by rw [← hys]; exact cell_of_row _ _ 1 _ _ _ hyc) lso
          have o2 : ∀ z : Bel wr, z.val.cell? ⟨So, 2, none⟩ = some (.int .i64 s.cf.2) := Bel.cell (by rw [← hys]; exact cell_of_row _ _ 2 _ _ _ hyc) lso
          have o3 : ∀ z : Bel wr, z.val.cell? ⟨So, 3, none⟩ = some (.int .u64 (s.mem : Int)) := Bel.cell (by rw [← hys]; exact cell_of_row _ _ 3 _ _ _ hyc) lso
          have s3 : ∀ z : Bel wr, z.val.cell? ⟨S, 3, none⟩ = some (.int .u64 (x.mem : Int)) := Bel.cell (cell_of_row _ _ 3 _ _ _ hstS) lS
          have hTr := HEV.out _ _ HW.out
          have x1 := hTr.cell HH.out.2.2.2.2 1 (v := .int .i64 x.proc) rfl
          have x2 := hTr.cell HH.out.2.2.2.2 2 (v := .int .u64 (x.ce : Int)) rfl
          have x3 := hTr.cell HH.out.2.2.2.2 3 (v := .int .i64 x.cr) rfl
          have HDB := Lib.hid (show dupJ x s = ((s.cf.1 == (x.ce : Int) && s.cf.2 == x.cr) && (((s.mem : Int) != (x.mem : Int)) || (s.proc == x.proc))) from by
            unfold dupJ
            rw [Bool.eq_iff_iff]
            simp [conf, Prod.ext_iff, bne_iff_ne, Int.natCast_inj])
          clear hgc0 hgl hg0 hys hyb hyo hyc hSo hsj hsl hs1 hstS lso lS hTr hjl
          generalize dupJ x s = DD at *
          generalize s.proc = op at *
          generalize s.cf.1 = oe at *
          generalize s.cf.2 = oc at *
          have hce := fun W => confEq W oe oc (x.ce : Int) x.cr
          generalize (oe == (x.ce : Int) && oc == x.cr) = DC at *
          generalize (s.mem : Int) = om at *
          obtain ⟨xm, hxm⟩ : ∃ m, m = (x.mem : Int) := ⟨_, rfl⟩
          rw [← hxm] at s3 HDB
          clear hxm
          go_wp2_with fail
          clear hgc
          cases DC
          · refine wp_region_bel_tail 32 (by kernel_rfl) (by kernel_rfl) ?_
            simp only [List.take_succ_cons, List.take_zero, List.drop_succ_cons, List.drop_zero]
            repeat (go_big_quiet_step ((fail)))
            refine wpQuiet_nil ?_
            intro w8 hw8
            have HC := Lib.hid (HBR.out w8 (bel_out hw8) false)
            clear hw8 o0 o1 o2 o3 s3 x1 x2 x3 hce HBR
            go_wp2_with fail
            refine HC.out.mono ?_
            rintro e w9 ⟨rfl, hE⟩
            rw [show false = DD from by rw [HDB.out]; rfl, ← HSTP.out] at hE
            have HE := Lib.hid hE
            clear hE HC
            go_wp2_with fail
            exact ⟨⟨j + 1, by omega, by go_num, HE⟩, by simp [intOf]; omega⟩
          · by_cases hom : om = xm
            · have d0 : (om != xm) = false := by simpa using hom
              have HD := Lib.hid (show (op == x.proc) = DD from by rw [HDB.out, d0]; rfl)
              clear hom HDB
              refine wp_region_bel_tail 32 (by kernel_rfl) (by kernel_rfl) ?_
              simp only [List.take_succ_cons, List.take_zero, List.drop_succ_cons, List.drop_zero]
              repeat (go_big_quiet_step ((fail)))
              refine wpQuiet_nil ?_
              intro w8 hw8
              have HC := Lib.hid (HBR.out w8 (bel_out hw8) (op == x.proc))
              clear hw8 o0 o1 o2 o3 s3 x1 x2 x3 hce HBR d0
              go_wp2_with fail
              refine HC.out.mono ?_
              rintro e w9 ⟨rfl, hE⟩
              rw [HD.out, ← HSTP.out] at hE
              have HE := Lib.hid hE
              clear hE HC
              go_wp2_with fail
              exact ⟨⟨j + 1, by omega, by go_num, HE⟩, by simp [intOf]; omega⟩
            · have d0 : (om != xm) = true := by simpa using hom
              have HD := Lib.hid (show true = DD from by rw [HDB.out, d0]; rfl)
              clear hom HDB
              refine wp_region_bel_tail 32 (by kernel_rfl) (by kernel_rfl) ?_
              simp only [List.take_succ_cons, List.take_zero, List.drop_succ_cons, List.drop_zero]
              repeat (go_big_quiet_step ((fail)))
              refine wpQuiet_nil ?_
              intro w8 hw8
              have HC := Lib.hid (HBR.out w8 (bel_out hw8) true)
              clear hw8 o0 o1 o2 o3 s3 x1 x2 x3 hce HBR d0
              go_wp2_with fail
              refine HC.out.mono ?_
              rintro e w9 ⟨rfl, hE⟩
              rw [HD.out, ← HSTP.out] at hE
              have HE := Lib.hid hE
              clear hE HC
              go_wp2_with fail
              exact ⟨⟨j + 1, by omega, by go_num, HE⟩, by simp [intOf]; omega⟩
        · have hd : decide ((j : Int) < (ns : Int)) = false := by simpa using hlt
          obtain rfl : j = ns := by omega
          have HE := Lib.hid (show JMid wB g o l RR n M (t1.dups x (projJ M).stays) wr from by
            have h := HW.out
            rwa [List.take_of_length_le (by simp [projJ, HN.out.1])] at h)
          go_wp2_with fail
          go_meet
          exact HE.out
    --}
  case rest =>
  obtain ⟨w8, rfl⟩ : ∃ z, z = wc := ⟨_, rfl⟩
  have H8 := Lib.hid hcut
  clear hcut H3 c1
  have HT2S := Lib.hid (show (t1.dups x (projJ M).stays).stays = (projJ M).stays from by rw [(dups_stays x _ t1).1, HT1S.out.1])
  have HT2 := Lib.hid (show tE = ((t1.dups x (projJ M).stays).went l x i bfo).enter x bfo from HT1.out)
  have HT2N := Lib.hid (show (t1.dups x (projJ M).stays).now = M.now from by rw [(dups_stays x _ t1).2.1, HT1S.out.2, ((projJ M).br_stays 1 _).2.2.1]; rfl)
  obtain ⟨t2, ht2⟩ : ∃ t, t = t1.dups x (projJ M).stays := ⟨_, rfl⟩
  rw [← ht2] at H8 HT2S HT2 HT2N
  clear ht2 HT1 HT1S
  have hst8 := HST.out _ _ H8.out
  have s12 : w8.cell? ⟨S, 12, none⟩ = some (.pointer pv) := by rw [HBF.out.2.2]; exact cell_of_row _ _ 12 _ _ _ hst8
  clear hst8
  go_upto_region 8 with (fail)
  obtain ⟨bi, hbi0⟩ : ∃ b, b = bfo.isSome := ⟨_, rfl⟩
  go_cut [11, 96] (fun s11 s96 wx => s11 = .pointer pv ∧ s96 = .bool bi ∧ wx = w8)
  case first =>
    have hpp : pv = (pbOf M bfo).map fun b => (⟨b, 0, none⟩ : Addr) := by rw [HBF.out.2.2, HBF.out.2.1]
    have hbi := hbi0
    clear hbi0
    cases hbo : bfo with
    | none =>
      rw [hbo] at hpp hbi
      have hpn : pv = none := hpp
      have hbn : bi = false := hbi
      subst hpn
      subst hbn
      clear hpp hbi hbo
      go_wp2_with fail
      go_meet
      exact ⟨rfl, rfl, rfl⟩
    | some k =>
      rw [hbo] at hpp hbi
      obtain ⟨bk, hpn⟩ : ∃ bk, pv = some ⟨bk, 0, none⟩ := ⟨_, hpp⟩
      have hbn : bi = true := hbi
      subst hpn
      subst hbn
      clear hpp hbi hbo
      go_wp2_with fail
      go_meet
      exact ⟨rfl, rfl, rfl⟩
  case rest =>
  obtain ⟨rfl, rfl, rfl⟩ := hcut
  clear s12
  go_upto_if 96 with (fail)
  have HBI := Lib.hid hbi0
  clear hbi0
  go_cut [11, 96] (fun s11 s96 wx => JMid wB g o l RR n M (t2.went l x i bfo) wx)
  case first =>
    cases hb : bfo with
    | none =>
      have HE := Lib.hid (show JMid wB g o l RR n M (t2.went l x i bfo) wc from by rw [hb]; exact H8.out)
      obtain rfl : bi = false := by rw [HBI.out, hb]; rfl
      clear hb
      go_wp2_with fail
      go_meet
      exact HE.out
    | some k =>
      obtain rfl : bi = true := by rw [HBI.out, hb]; rfl
      have hkl : k < M.stays.length := now_ltJ HH.out.2.2.1 (by rw [← hb]; exact HBF.out.1.symm)
      have hpv : pv = some ⟨M.stays[k].b, 0, none⟩ := by
        rw [HBF.out.2.2, HBF.out.2.1, hb]
        simp [pbOf, hkl]
      have hil : i < l.length := (List.getElem?_eq_some_iff.1 HH.out.2.2.2.2).1
      obtain ⟨s, v6, hsk, c6, f6, hnx⟩ := H8.out.nx hkl hil
      have HIL := Lib.hid (And.intro hkl (And.intro hil (And.intro hsk hb)))
      obtain ⟨So, hSo⟩ : ∃ b, b = M.stays[k].b := ⟨_, rfl⟩
      rw [← hSo] at hpv c6 f6 hnx
      subst hpv
      have HWN := Lib.hid (show t2.went l x i bfo = ((t2.setS k { s with nx := some i }).br 1 (decide (keyZ (x.ce : Int) x.cr s.cf.1 s.cf.2 ≤ 0))).br 1 (wayJ l x s) from by rw [hb]; simp only [J.went, hsk])
      have HSX := Lib.hid (show ∀ (t : J) (W : World), JMid wB g o l RR n M t W → ∀ s', t.stays[k]? = some s' → ∃ y : JX, y.s = s' ∧ W.heap[So]? = some (.cells (jsC g o y) 56 (0, 0)) ∧ ∀ e, s'.tr = some e → e < l.length from fun t W hm s' hs' => by
        obtain ⟨s2, a1, y, a2, a3, a4, a5, _⟩ := hm.stay hkl
        rw [a1] at hs'
        injection hs' with hs'
        subst hs'
        exact ⟨y, a2, by rw [hSo]; exact a5, fun e he => a4.tr e (by rw [← a2] at he; exact he)⟩)
      obtain ⟨t3, ht3⟩ : ∃ t, t = t2.setS k { s with nx := some i } := ⟨_, rfl⟩
      have h3k : t3.stays[k]? = some { s with nx := some i } := by
        rw [ht3]
        unfold J.setS
        rw [List.getElem?_set_self (List.getElem?_eq_some_iff.1 hsk).1]
      rw [← ht3] at hnx HWN
      obtain ⟨w9, hw9⟩ : ∃ w9, w9 = wc.setCell ⟨So, 6, none⟩ (.pointer (some ⟨g, o + i * 19, none⟩)) := ⟨_, rfl⟩
      rw [← hw9] at hnx
      have H9 := Lib.hid hnx
      have HW9 := Lib.hid hw9
      have H3K := Lib.hid h3k
      clear hb hkl hil hsk hSo ht3 h3k hnx hw9 H8
      go_upto_region 10 with (fail)
      rw [← HW9.out]
      clear HW9 c6 f6
      go_cut [] (fun wx => JMid wB g o l RR n M (t3.br 1 (decide (keyZ (x.ce : Int) x.cr s.cf.1 s.cf.2 ≤ 0))) wx)
      case first =>
        --{
        as_aux_lemma =>
          obtain ⟨y, hys, hyc, _⟩ := HSX.out _ _ H9.out _ H3K.out
          have hTr := HEV.out _ _ H9.out
          have x2 := hTr.cell HH.out.2.2.2.2 2 (v := .int .u64 (x.ce : Int)) rfl
          have x3 := hTr.cell HH.out.2.2.2.2 3 (v := .int .i64 x.cr) rfl
          have lso := (Array.getElem?_eq_some_iff.1 hyc).1
          have o1 : ∀ z : Bel w9, z.val.cell? ⟨So, 1, none⟩ = some (.int .u64 s.cf.1) := Bel.cell ((cell_of_row _ _ 1 _ _ _ hyc).trans (by show some (Value.int .u64 y.s.cf.1) = _; rw [hys])) lso
          have o2 : ∀ z : Bel w9, z.val.cell? ⟨So, 2, none⟩ = some (.int .i64 s.cf.2) := Bel.cell ((cell_of_row _ _ 2 _ _ _ hyc).trans (by show some (Value.int .i64 y.s.cf.2) = _; rw [hys])) lso
          have HBR := Lib.hid (H9.out.brk 1)
          rw [← HTT.out.1] at HBR
          clear hys hyc hTr lso
          generalize s.cf.1 = oe at *
          generalize s.cf.2 = oc at *
          refine wp_region_bel_tail 11 (by kernel_rfl) (by kernel_rfl) ?_
          simp only [List.take_succ_cons, List.take_zero, List.drop_succ_cons, List.drop_zero]
          repeat (go_big_quiet_step ((go_at_call 51; with_reducible exact bel_call (kConf_any _ _ _ _ _))))
          refine wpQuiet_nil ?_
          intro w4 hw4
          have HC := Lib.hid (HBR.out w4 (bel_out hw4) (decide (keyZ (x.ce : Int) x.cr oe oc ≤ 0)))
          clear hw4 HBR x2 x3 o1 o2
          go_wp2_with fail
          refine HC.out.mono ?_
          rintro e w5 ⟨rfl, hE⟩
          have HE := Lib.hid hE
          clear hE HC
          go_wp2_with fail
          go_meet
          exact HE.out
        --}
      case rest =>
      obtain ⟨wd, rfl⟩ : ∃ z, z = wc := ⟨_, rfl⟩
      have HD := Lib.hid hcut
      clear hcut H9
      obtain ⟨t4, ht4⟩ : ∃ t, t = t3.br 1 (decide (keyZ (x.ce : Int) x.cr s.cf.1 s.cf.2 ≤ 0)) := ⟨_, rfl⟩
      have h4k : t4.stays[k]? = some { s with nx := some i } := by
        rw [ht4, (t3.br_stays 1 _).1]
        exact H3K.out
      rw [← ht4] at HD HWN
      have H4K := Lib.hid h4k
      clear ht4 h4k H3K
      obtain ⟨y, hys, hyc, hytr⟩ := HSX.out _ _ HD.out _ H4K.out
      have hTr := HEV.out _ _ HD.out
      have hst := HST.out _ _ HD.out
      have x1 := hTr.cell HH.out.2.2.2.2 1 (v := .int .i64 x.proc) rfl
      have x2 := hTr.cell HH.out.2.2.2.2 2 (v := .int .u64 (x.ce : Int)) rfl
      have x3 := hTr.cell HH.out.2.2.2.2 3 (v := .int .i64 x.cr) rfl
      have s3 : ∀ z : Bel wd, z.val.cell? ⟨S, 3, none⟩ = some (.int .u64 (x.mem : Int)) := Bel.cell (cell_of_row _ _ 3 _ _ _ hst) (Array.getElem?_eq_some_iff.1 hst).1
      have o5 : ∀ z : Bel wd, z.val.cell? ⟨So, 5, none⟩ = some (evP g o s.tr) := Bel.cell ((cell_of_row _ _ 5 _ _ _ hyc).trans (by show some (evP g o y.s.tr) = _; rw [hys])) (Array.getElem?_eq_some_iff.1 hyc).1
      have HBR := Lib.hid (HD.out.brk 1)
      rw [← HTT.out.1] at HBR
      have hytr : ∀ e, s.tr = some e → e < l.length := hytr
      clear hys hyc hst
      obtain ⟨tq, htq⟩ : ∃ q, q = s.tr := ⟨_, rfl⟩
      rw [← htq] at o5 hytr
      cases tq with
      | none =>
        have HWB := Lib.hid (show wayJ l x s = true from by unfold wayJ; rw [← htq])
        replace o5 : ∀ z : Bel wd, z.val.cell? ⟨So, 5, none⟩ = some (.pointer none) := o5
        clear htq hytr HD hTr
        go_upto_region 11 with (fail)
        refine wp_region_bel_tail 50 (by kernel_rfl) (by kernel_rfl) ?_
        simp only [List.take_succ_cons, List.take_zero, List.drop_succ_cons, List.drop_zero]
        repeat (go_big_quiet_step ((first | (go_at_call 50; with_reducible exact bel_same (setHas_any _ _ _)) | (go_at_call 52; with_reducible exact bel_same (setIn_any _ _ _)))))
        refine wpQuiet_nil ?_
        intro w4 hw4
        have HC := Lib.hid (HBR.out w4 (bel_out hw4) (true))
        clear hw4 HBR x1 x2 x3 s3 o5
        go_wp2_with fail
        refine HC.out.mono ?_
        rintro e w5 ⟨rfl, hE⟩
        rw [show (true : Bool) = wayJ l x s from HWB.out.symm, ← HWN.out] at hE
        have HE := Lib.hid hE
        clear hE HC
        go_wp2_with fail
        go_meet
        exact HE.out
      | some q =>
        replace o5 : ∀ z : Bel wd, z.val.cell? ⟨So, 5, none⟩ = some (.pointer (some ⟨g, o + q * 19, none⟩)) := o5
        have hql := hytr q rfl
        obtain ⟨xq, hxq⟩ : ∃ xq, l[q]? = some xq := ⟨_, List.getElem?_eq_getElem hql⟩
        have t4' := hTr.cell hxq 4 (v := .int .u64 (xq.ne : Int)) rfl
        have t5' := hTr.cell hxq 5 (v := .int .i64 xq.nr) rfl
        have t6' := hTr.cell hxq 6 (v := .int .u64 (xq.mem : Int)) rfl
        have HWB := Lib.hid (show wayJ l x s = ((!((xq.ne : Int) == (x.ce : Int) && xq.nr == x.cr)) || !inB xq.mem x.mem || !hasB xq.mem x.proc) from by
          unfold wayJ
          rw [← htq]
          simp only [evN, evM, hxq]
          congr 2
          congr 1
          rw [Bool.eq_iff_iff]
          simp [next, conf, Prod.ext_iff])
        have hcn := fun W => confNeq W (xq.ne : Int) xq.nr (x.ce : Int) x.cr
        generalize ((xq.ne : Int) == (x.ce : Int) && xq.nr == x.cr) = D at *
        generalize xq.mem = om at *
        generalize (xq.ne : Int) = one at *
        generalize xq.nr = onr at *
        clear htq hytr HD hTr hql hxq
        cases D
        · go_upto_region 11 with (fail)
          refine wp_region_bel_tail 50 (by kernel_rfl) (by kernel_rfl) ?_
          simp only [List.take_succ_cons, List.take_zero, List.drop_succ_cons, List.drop_zero]
          repeat (go_big_quiet_step ((first | (go_at_call 50; with_reducible exact bel_same (setHas_any _ _ _)) | (go_at_call 52; with_reducible exact bel_same (setIn_any _ _ _)))))
          refine wpQuiet_nil ?_
          intro w4 hw4
          have HC := Lib.hid (HBR.out w4 (bel_out hw4) (true))
          clear hw4 HBR x1 x2 x3 s3 o5 t4' t5' t6' hcn
          go_wp2_with fail
          refine HC.out.mono ?_
          rintro e w5 ⟨rfl, hE⟩
          rw [show (true : Bool) = wayJ l x s from by rw [HWB.out]; rfl, ← HWN.out] at hE
          have HE := Lib.hid hE
          clear hE HC
          go_wp2_with fail
          go_meet
          exact HE.out
        · obtain ⟨ib, hib⟩ : ∃ b, b = inB om x.mem := ⟨_, rfl⟩
          have HIN := Lib.hid (show ∀ W : World, Calls Tryz.prog 52 #[.int .u64 (om : Int), .int .u64 (x.mem : Int)] W fun e w' => e = .returned (.bool ib) ∧ W = w' from fun W => by rw [hib]; exact setIn_any _ _ _)
          rw [← hib] at HWB
          clear hib
          cases ib
          · go_upto_region 11 with (fail)
            refine wp_region_bel_tail 50 (by kernel_rfl) (by kernel_rfl) ?_
            simp only [List.take_succ_cons, List.take_zero, List.drop_succ_cons, List.drop_zero]
            repeat (go_big_quiet_step ((first | (go_at_call 50; with_reducible exact bel_same (setHas_any _ _ _)) | (go_at_call 52; with_reducible exact bel_same (HIN.out _)))))
            refine wpQuiet_nil ?_
            intro w4 hw4
            have HC := Lib.hid (HBR.out w4 (bel_out hw4) (true))
            clear hw4 HBR x1 x2 x3 s3 o5 t4' t5' t6' hcn
            go_wp2_with fail
            refine HC.out.mono ?_
            rintro e w5 ⟨rfl, hE⟩
            rw [show (true : Bool) = wayJ l x s from by rw [HWB.out]; rfl, ← HWN.out] at hE
            have HE := Lib.hid hE
            clear hE HC
            go_wp2_with fail
            go_meet
            exact HE.out
          · go_upto_region 11 with (fail)
            refine wp_region_bel_tail 50 (by kernel_rfl) (by kernel_rfl) ?_
            simp only [List.take_succ_cons, List.take_zero, List.drop_succ_cons, List.drop_zero]
            repeat (go_big_quiet_step ((first | (go_at_call 50; with_reducible exact bel_same (setHas_any _ _ _)) | (go_at_call 52; with_reducible exact bel_same (HIN.out _)))))
            refine wpQuiet_nil ?_
            intro w4 hw4
            have HC := Lib.hid (HBR.out w4 (bel_out hw4) (!hasB om x.proc))
            clear hw4 HBR x1 x2 x3 s3 o5 t4' t5' t6' hcn
            go_wp2_with fail
            refine HC.out.mono ?_
            rintro e w5 ⟨rfl, hE⟩
            rw [show (!hasB om x.proc) = wayJ l x s from by rw [HWB.out]; rfl, ← HWN.out] at hE
            have HE := Lib.hid hE
            clear hE HC
            go_wp2_with fail
            go_meet
            exact HE.out
  case rest =>
  obtain ⟨wa, rfl⟩ : ∃ z, z = wc := ⟨_, rfl⟩
  have HA := Lib.hid hcut
  clear hcut H8
  obtain ⟨M5, a1, a2, a3, a4, a5, a6, a7⟩ := HA.out
  have hbw : Below wB.heap.size wB wa := a1.bel
  have hTr := HH.out.2.1.below hbw
  have hnowE : M5.now = M.now := by
    have h1 : (t2.went l x i bfo).now = M.now := by
      have h2 : t2.now = M.now := HT2N.out
      unfold J.went
      cases bfo with
      | none => exact h2
      | some k =>
        simp only
        cases hk : t2.stays[k]? with
        | none => exact h2
        | some s =>
          simp only
          rw [(J.br_stays _ 1 _).2.2.1, (J.br_stays _ 1 _).2.2.1]
          exact h2
    have h3 := congrArg J.now a3
    exact h3.trans h1
  have hlen : M5.stays.length = ns := by
    have h1 := congrArg List.length a5
    simpa [HN.out.1] using h1
  have hbfok : BfOk M5.stays bfo pbo := by
    have h1 := HBF.out.2.1
    cases hb : bfo with
    | none => rw [hb] at h1; exact h1
    | some k =>
      show ∃ y, M5.stays[k]? = some y ∧ pbo = some y.b
      have hkl : k < M.stays.length := now_ltJ HH.out.2.2.1 (by rw [← hb]; exact HBF.out.1.symm)
      have hk5 : k < M5.stays.length := by rw [hlen, HN.out.1]; exact hkl
      refine ⟨M5.stays[k], List.getElem?_eq_getElem hk5, ?_⟩
      rw [h1, hb]
      have e1 := congrArg (fun L => L.getD k 0) a5
      show some ((M.stays.map (·.b)).getD k 0) = _
      rw [← e1]
      simp [hk5]
  obtain ⟨y, hy⟩ : ∃ y, y = newX S x bfo pbo := ⟨_, rfl⟩
  have hRR := HRR.out
  rw [← hy] at hRR
  rw [hRR] at a1
  have H5 := Lib.hid (And.intro a1 (And.intro a2 (And.intro a3 (And.intro a4 (And.intro a6 (And.intro a7 (And.intro hnowE (And.intro hlen hbfok))))))))
  have HY := Lib.hid hy
  have x1 := hTr.cell HH.out.2.2.2.2 1 (v := .int .i64 x.proc) rfl ⟨wa, br wa⟩
  dsimp only at x1
  clear a1 a2 a3 a4 a5 a6 a7 hbw hTr hnowE hlen hbfok hy hRR HA
  -- the map
  obtain ⟨we, hrun, hg, hgr, hsz⟩ := (jown_now H5.out.1.own).update (P := Tryz.prog) Tryz.underlying67 intLaw x.proc (.pointer (some ⟨S, 0, none⟩))
  rw [nthJ_snoc M5.stays y M5.now H5.out.2.1.now, show Value.pointer (some ⟨S, 0, none⟩) = nthJ (M5.stays ++ [y]) M5.stays.length from by rw [HY.out]; simp [nthJ, newX, ptrV], put_vals (nthJ (M5.stays ++ [y]))] at hg
  have N8 := H5.out.1.one (w' := we) 4 (p := jNow M5) (jNow (finJ M5 y x.proc none 0)) rfl ((Kept.of_grown hgr).more (fun k _ e => by rw [e]; rfl)) (by
    show GMap intV we M5.h.nb (vals (nthJ (M5.stays ++ [y])) (put M5.now x.proc M5.stays.length))
    exact hg) (fun b e => .inl e)
  have hrun : (Instr.mapUpdate 67 (.map (some nb)) (.int .i64 x.proc) (.pointer (some ⟨S, 0, none⟩))).run Tryz.prog wa = .ok () we := by rw [HTT.out.2, ← H5.out.2.2.2.1]; exact hrun
  have HE := Lib.hid N8
  clear hg hgr hsz N8
  go_upto_region 13 with (fail)
  clear hrun x1
  -- the row
  have hrow : we.ownsRow 0 51 1 (.slice sa ns sc) ns (M5.stays.map fun x => ptrV x.b) := by
    have h : (jPtr M5).ok we := HE.out.own.ok (jPtr M5) (List.mem_of_getElem? (i := 2) rfl)
    have h : we.ownsRow 0 51 1 (.slice M5.sa M5.stays.length M5.sc) M5.stays.length (M5.stays.map fun x => ptrV x.b) := h
    rw [H5.out.2.2.2.2.2.2.2.1, H5.out.2.2.2.2.1, H5.out.2.2.2.2.2.1, ← HN.out.2.1, ← HN.out.2.2] at h
    exact h
  have htr : we.heap[TT]? = some (.cells (trC M5) 48 (0, 0)) := by
    have h : (jTr M5).ok we := HE.out.own.ok (jTr M5) (List.mem_of_getElem? (i := 0) rfl)
    have h : we.heap[M5.h.T]? = _ := h
    rw [H5.out.2.2.2.1, ← HTT.out.1] at h
    exact h
  have c1 : we.cell? ⟨TT, 1, none⟩ = some (.slice sa ns sc) := by
    have h := cell_of_row _ _ 1 _ _ _ htr
    rw [h, HN.out.2.1, HN.out.2.2, ← H5.out.2.2.2.2.1, ← H5.out.2.2.2.2.2.1, ← H5.out.2.2.2.2.2.2.2.1]
    rfl
  obtain ⟨i0, hi, hz0, hz1, hz2⟩ := info_parts info51
  have HO := Lib.hid (hrow.alloc (.cells #[.pointer (some ⟨S, 0, none⟩)] 51))
  have HR1 := Lib.hid (reads_one we (.pointer (some ⟨S, 0, none⟩)) 51)
  clear hrow htr
  go_wp2_with (at_builtin; refine wpList_append_any _ rfl (.tmp 174) (.tmp 176) 45 rfl 0 51 i0 _ 1 8 Tryz.underlying45 hi hz0 hz1 hz2 rfl (by decide) _ ns _ rfl HO.out _ _ 1 _ _ rfl HR1.out (by simp [Value.oneCell']) (by unfold maxLen; omega) (by omega) (by simp) ?_)
  intro v' wg ho hgw hu
  obtain ⟨sa', sc', rfl⟩ := ownForm ho
  have hKg : Kept (fun k => (jPtr M5).blk = some k) we wg := ((Kept.refl _ _).alloc _).trans ((Kept.of_grown' hgw).more fun k _ e => by
    obtain ⟨b, hb, rfl⟩ := e
    show (Value.slice M5.sa M5.stays.length M5.sc).ownBlock = _
    rw [H5.out.2.2.2.2.2.2.2.1, H5.out.2.2.2.2.1, H5.out.2.2.2.2.2.1, ← HN.out.2.1, ← HN.out.2.2]
    exact hb)
  have hsz : (we.alloc (.cells #[.pointer (some ⟨S, 0, none⟩)] 51)).heap.size = we.heap.size + 1 := by simp
  have hl1 : (finJ M5 y x.proc sa' sc').stays.length = ns + 1 := by
    show (M5.stays ++ [y]).length = _
    rw [List.length_append, H5.out.2.2.2.2.2.2.2.1]
    rfl
  have O1 := HE.out.one (w' := wg) 2 (p := jPtr M5) (jPtr (finJ M5 y x.proc sa' sc')) rfl hKg (by
      show wg.ownsRow 0 51 1 (.slice sa' (finJ M5 y x.proc sa' sc').stays.length sc') (finJ M5 y x.proc sa' sc').stays.length ((M5.stays ++ [y]).map fun x => ptrV x.b)
      rw [hl1, List.map_append, HY.out]
      exact ho) (fun b e => by
      have e : (Value.slice sa' (ns + 1) sc').ownBlock = some b := by rw [← hl1]; exact e
      rcases hu with h | h
      · left
        show (Value.slice M5.sa M5.stays.length M5.sc).ownBlock = _
        rw [H5.out.2.2.2.2.2.2.2.1, H5.out.2.2.2.2.1, H5.out.2.2.2.2.2.1, ← HN.out.2.1, ← HN.out.2.2, ← h]
        exact e
      · rw [h] at e
        injection e with e
        right
        omega)
  have htr : wg.heap[TT]? = some (.cells (trC M5) 48 (0, 0)) := by
    have h : (jTr M5).ok wg := O1.own.ok (jTr M5) (List.mem_of_getElem? (i := 0) rfl)
    have h : wg.heap[M5.h.T]? = _ := h
    rw [H5.out.2.2.2.1, ← HTT.out.1] at h
    exact h
  have O2 := O1.one (w' := wg.setCell ⟨TT, 1, none⟩ (.slice sa' (ns + 1) sc')) 0 (p := jTr M5) (jTr (finJ M5 y x.proc sa' sc')) rfl ((keptS wg ⟨TT, 1, none⟩ _).more fun k _ e => by
      rw [e]
      show some M5.h.T = some TT
      rw [H5.out.2.2.2.1, HTT.out.1]) (by
      have h := setCell_block htr 1 (.slice sa' (ns + 1) sc')
      show (wg.setCell ⟨TT, 1, none⟩ (.slice sa' (ns + 1) sc')).heap[(finJ M5 y x.proc sa' sc').h.T]? = some (.cells (trC (finJ M5 y x.proc sa' sc')) 48 (0, 0))
      rw [show (finJ M5 y x.proc sa' sc').h.T = TT from by show M5.h.T = TT; rw [H5.out.2.2.2.1, HTT.out.1], h]
      unfold trC
      rw [hl1]
      rfl) (fun b e => .inl e)
  have hfin : JTo wB g o l R (n + 1) M.h tE (wg.setCell ⟨TT, 1, none⟩ (.slice sa' (ns + 1) sc')) := by
    refine ⟨finJ M5 y x.proc sa' sc', ?_, ?_, ?_, H5.out.2.2.2.1⟩
    · rw [← jparts_fin]
      exact O2
    · rw [HY.out]
      exact H5.out.2.1.fin S x bfo pbo H5.out.2.2.2.2.2.2.2.2 sa' sc'
    · rw [HY.out, projJ_fin, H5.out.2.2.1, HT2.out]
  have f1 : wg.frozen? ⟨TT, 1, none⟩ = false := frozen_of_row _ _ _ _ _ htr
  have g1 : wg.cell? ⟨TT, 1, none⟩ = some (.slice sa ns sc) := by
    have h := cell_of_row _ _ 1 _ _ _ htr
    rw [h, HN.out.2.1, HN.out.2.2, ← H5.out.2.2.2.2.1, ← H5.out.2.2.2.2.2.1, ← H5.out.2.2.2.2.2.2.2.1]
    rfl
  have HF := Lib.hid hfin
  clear O1 O2 htr hfin hKg hsz ho hgw hu hl1 HO HR1 c1 H5 HE
  go_wp2_with fail
  go_end0
  exact ⟨rfl, HF.out⟩
end Go.Proofs.YtogagkgkmoppmaaGreatDoor
