/-
  The judge: an event of an incarnation, walked.
  Conditions: those that each theorem names.
-/
import Derived.Test.YtogagkgkmoppmaaGreatDoorJuHZs
namespace Go.Proofs.YtogagkgkmoppmaaGreatDoor
set_option linter.unusedVariables false
set_option linter.unusedSimpArgs false
open Go.RowKit GM
def mineB (M : JM) (x : Ev) (s : Option Nat) : Bool := match s with
  | none => false
  | some k => match M.stays[k]? with
    | none => false
    | some y => decide (x.kind = 12 ∧ y.s.vw = none ∧ y.s.bf.isSome = true)
def strangeB (l : List Ev) (nm : Nat → List NameK) (M : JM) (i : Nat) (x : Ev) (s : Option Nat) : Bool := match s with
  | none => true
  | some k => match M.stays[k]? with
    | none => true
    | some y => strange l nm i x y.s
theorem bf_sV {g o n : Nat} {l : List Ev} {M : JM} (hJ : JOk g o l n M) {k : Nat} (hk : k < M.stays.length) : Value.pointer (M.stays[k].pb.map fun b => ⟨b, 0, none⟩) = sV M M.stays[k].s.bf := by
  have hx := (hJ.st _ (List.getElem_mem hk)).bf
  cases hb : M.stays[k].s.bf with
  | none => rw [hb] at hx; rw [hx]; rfl
  | some q =>
    rw [hb] at hx
    obtain ⟨y, hy, hp⟩ := hx
    obtain ⟨hq, rfl⟩ := List.getElem?_eq_some_iff.1 hy
    rw [hp]
    show _ = nthJ M.stays q
    rw [nthJ_at hq]
    rfl
theorem JTo.wrg {wB w : World} {g o n : Nat} {l : List Ev} {M : JM} {R : List Pc} (h : At wB (jparts g o l M ++ R) w) (hJ : JOk g o l n M) (b : Bool) :
    Calls Tryz.prog 29 #[.pointer (some ⟨M.h.T, 0, none⟩), .int .i64 3, .bool b] w fun e w' => e = .returned (.tuple #[]) ∧ At wB (jparts g o l (M.wr 3 b) ++ R) w' := jwrong_any h 3 b
set_option maxRecDepth 100000 in
set_option maxHeartbeats 16000000 in
theorem mine_any {wB w : World} {g o n : Nat} {l : List Ev} {nm : Nat → List NameK} {M : JM} {R : List Pc} (h : At wB (jparts g o l M ++ R) w) (hT : Tr wB g o l nm) (hJ : JOk g o l n M) (hn : n ≤ 5000) (i : Nat) (x : Ev) (hx : l[i]? = some x) (s : Option Nat) (hs : ∀ k, s = some k → k < M.stays.length) :
    Calls Tryz.prog 53 #[.pointer (some ⟨M.h.T, 0, none⟩), .pointer (some ⟨g, o + i * 19, none⟩), sV M s] w fun e w' => e = .returned (.tuple #[]) ∧ JTo wB g o l R (n + 1) M.h ((projJ M).mine l nm i x s) w' := by
  have hTw := hT.below h.bel
  have e0 : w.cell? ⟨g, o + i * 19, none⟩ = some (.int .i64 x.kind) := hTw.cell hx 0 (v := .int .i64 x.kind) rfl ⟨w, br w⟩
  obtain ⟨s', hs'⟩ : ∃ s', s' = (projJ M).mineAt x s := ⟨_, rfl⟩
  have hs'l : ∀ k, s' = some k → k < M.stays.length := fun k hk => mineAt_lt hJ x s hs k (by rw [← hs']; exact hk)
  obtain ⟨b0, hb0⟩ : ∃ b, b = mineB M x s := ⟨_, rfl⟩
  have hb0f : b0 = false → s' = s := fun e => by
    rw [hb0] at e
    rw [hs']
    unfold J.mineAt
    unfold mineB at e
    cases s with
    | none => rfl
    | some k =>
      have hk := hs k rfl
      simp only [List.getElem?_eq_getElem hk, decide_eq_false_iff_not] at e
      simp only [proj_at hk]
      rw [if_neg e]
  have hb0t : b0 = true → ∃ k, ∃ hk : k < M.stays.length, s = some k ∧ s' = M.stays[k].s.bf ∧ x.kind = 12 ∧ M.stays[k].s.vw = none ∧ M.stays[k].s.bf.isSome = true := fun e => by
    rw [hb0] at e
    unfold mineB at e
    cases s with
    | none => cases e
    | some k =>
      have hk := hs k rfl
      simp only [List.getElem?_eq_getElem hk, decide_eq_true_eq] at e
      refine ⟨k, hk, rfl, ?_, e⟩
      rw [hs']
      unfold J.mineAt
      simp only [proj_at hk]
      rw [if_pos e]
  obtain ⟨bb, hbb⟩ : ∃ b, b = strangeB l nm M i x s' := ⟨_, rfl⟩
  obtain ⟨tE, htE⟩ : ∃ t, t = (projJ M).mine l nm i x s := ⟨_, rfl⟩
  have htE1 : bb = true → tE = (projJ M).wr 3 true := fun e => by
    rw [hbb] at e
    rw [htE]
    unfold J.mine
    rw [← hs']
    unfold strangeB at e
    cases s' with
    | none => rfl
    | some k =>
      have hk := hs'l k rfl
      simp only [List.getElem?_eq_getElem hk] at e
      simp only [proj_at hk]
      rw [if_pos e]
  have htE2 : bb = false → ∃ k, ∃ hk : k < M.stays.length, s' = some k ∧ tE = (projJ M).mineTo i x k M.stays[k].s := fun e => by
    rw [hbb] at e
    unfold strangeB at e
    cases hsc : s' with
    | none => rw [hsc] at e; cases e
    | some k =>
      have hk := hs'l k hsc
      rw [hsc] at e
      simp only [List.getElem?_eq_getElem hk] at e
      refine ⟨k, hk, rfl, ?_⟩
      rw [htE]
      unfold J.mine
      rw [← hs', hsc]
      simp only [proj_at hk]
      rw [if_neg (by rw [e]; exact Bool.noConfusion)]
  rw [← htE]
  have HH := Lib.hid (And.intro h (And.intro hT (And.intro hJ (And.intro hn (And.intro hx (And.intro hs hs'l))))))
  have HBB := Lib.hid (And.intro hbb (And.intro htE1 htE2))
  have HB0 := Lib.hid (And.intro hb0f hb0t)
  have HB0D := Lib.hid hb0
  obtain ⟨TT, hTT⟩ : ∃ T, T = M.h.T := ⟨_, rfl⟩
  have HTT := Lib.hid hTT
  rw [← hTT]
  clear h hT hJ hn hx hs hs'l hTw hs' hb0 hb0f hb0t hbb htE htE1 htE2 hTT
  obtain ⟨kd, hkd⟩ : ∃ kd, kd = x.kind := ⟨_, rfl⟩
  rw [← hkd] at e0
  have HKD := Lib.hid hkd
  clear hkd
  obtain ⟨SV, hSV⟩ : ∃ v, v = sV M s := ⟨_, rfl⟩
  rw [← hSV]
  have HSV := Lib.hid hSV
  clear hSV
  go_enter Tryz.func53, Tryz.ntmps53
  go_upto_region 0 with (fail)
  go_cut [28] (fun s28 wx => s28 = .bool b0 ∧ wx = w)
  case first =>
    --{
    as_aux_lemma =>
      by_cases k12 : kd = 12
      rotate_left
      · have d12 : (kd == 12) = false := by simpa using k12
        have hb : b0 = false := by
          rw [HB0D.out]
          unfold mineB
          cases s with
          | none => rfl
          | some k =>
            simp only
            cases M.stays[k]? with
            | none => rfl
            | some y => simp only; exact decide_eq_false fun hh => k12 (HKD.out.trans hh.1)
        subst hb
        clear k12
        go_wp2_with fail
        go_meet
        exact ⟨rfl, rfl⟩
      · subst k12
        have hsv := HSV.out
        cases hsc : s with
        | none =>
          rw [hsc] at hsv
          replace hsv : SV = .pointer none := hsv
          have hb : b0 = false := by rw [HB0D.out, hsc]; rfl
          subst hb
          subst hsv
          clear hsc
          go_wp2_with fail
          go_meet
          exact ⟨rfl, rfl⟩
        | some k =>
          have hk := HH.out.2.2.2.2.2.1 k hsc
          rw [hsc] at hsv
          replace hsv : SV = .pointer (some ⟨M.stays[k].b, 0, none⟩) := by rw [hsv]; exact nthJ_at hk
          have hym := List.getElem_mem hk
          have c7 := jcell HH.out.1.own hym 7 (v := evP g o M.stays[k].s.vw) rfl ⟨w, br w⟩
          have c12 := jcell HH.out.1.own hym 12 (v := .pointer (M.stays[k].pb.map fun b => ⟨b, 0, none⟩)) rfl ⟨w, br w⟩
          have hb : b0 = decide (M.stays[k].s.vw = none ∧ M.stays[k].s.bf.isSome = true) := by
            rw [HB0D.out, hsc]
            unfold mineB
            simp only [List.getElem?_eq_getElem hk]
            rw [Bool.eq_iff_iff]
            simp [← HKD.out]
          have hpb := bf_sV HH.out.2.2.1 hk
          dsimp only at c7 c12
          obtain ⟨yb, hyb⟩ : ∃ b, b = M.stays[k].b := ⟨_, rfl⟩
          rw [← hyb] at c7 c12 hsv
          subst hsv
          cases hvw : M.stays[k].s.vw with
          | some v =>
            rw [hvw] at c7 hb
            replace hb : b0 = false := by rw [hb]; simp
            subst hb
            replace c7 : w.cell? ⟨yb, 7, none⟩ = some (.pointer (some ⟨g, o + v * 19, none⟩)) := c7
            clear hvw hpb c12 hyb hsc hym hk
            go_wp2_with fail
            go_meet
            exact ⟨rfl, rfl⟩
          | none =>
            rw [hvw] at c7 hb
            replace c7 : w.cell? ⟨yb, 7, none⟩ = some (.pointer none) := c7
            have hx := (HH.out.2.2.1.st _ hym).bf
            cases hbf : M.stays[k].s.bf with
            | none =>
              rw [hbf] at hb hx
              replace hb : b0 = false := by rw [hb]; simp
              replace hx : M.stays[k].pb = none := hx
              rw [hx] at c12
              replace c12 : w.cell? ⟨yb, 12, none⟩ = some (.pointer none) := c12
              subst hb
              clear hvw hpb hyb hsc hym hx hbf hk
              go_wp2_with fail
              go_meet
              exact ⟨rfl, rfl⟩
            | some q =>
              rw [hbf] at hb hx
              replace hb : b0 = true := by rw [hb]; simp
              obtain ⟨z, _, hz⟩ := hx
              rw [hz] at c12
              replace c12 : w.cell? ⟨yb, 12, none⟩ = some (.pointer (some ⟨z.b, 0, none⟩)) := c12
              subst hb
              clear hvw hpb hyb hsc hym hz hbf hk
              go_wp2_with fail
              go_meet
              exact ⟨rfl, rfl⟩
    --}
  case rest =>
  obtain ⟨rfl, rfl⟩ := hcut
  go_upto_if 28 with (fail)
  go_cut [2] (fun s2 wx => s2 = sV M s' ∧ wx = wc)
  case first =>
    --{
    as_aux_lemma =>
      cases b0
      · have hss := HB0.out.1 rfl
        have hsv := HSV.out
        rw [← hss] at hsv
        clear hss e0
        have HSV2 := Lib.hid hsv
        clear hsv
        go_wp2_with fail
        go_meet
        exact ⟨HSV2.out, rfl⟩
      · obtain ⟨k, hk, hsk, hss, hu1, hu2, hbf⟩ := HB0.out.2 rfl
        have hsv := HSV.out
        rw [hsk] at hsv
        replace hsv : SV = .pointer (some ⟨M.stays[k].b, 0, none⟩) := by rw [hsv]; exact nthJ_at hk
        have c12 := jcell HH.out.1.own (List.getElem_mem hk) 12 (v := .pointer (M.stays[k].pb.map fun b => ⟨b, 0, none⟩)) rfl ⟨wc, br wc⟩
        dsimp only at c12
        rw [bf_sV HH.out.2.2.1 hk, ← hss] at c12
        generalize sV M s' = PV at *
        generalize M.stays[k].b = yb at *
        subst hsv
        clear hsk hss hu1 hu2 hbf hk e0
        go_wp2_with fail
        go_meet
        exact ⟨rfl, rfl⟩
    --}
  case rest =>
  obtain ⟨rfl, rfl⟩ := hcut
  clear HSV HB0 HB0D e0
  --REGION2
  obtain ⟨wb, rfl⟩ : ∃ z, z = wc := ⟨_, rfl⟩
  obtain ⟨SP, hSP⟩ : ∃ v, v = sV M s' := ⟨_, rfl⟩
  rw [← hSP]
  have HSP := Lib.hid hSP
  clear hSP
  go_upto_region 2 with (fail)
  go_cut [100] (fun s100 wx => s100 = .bool bb ∧ Below wb.heap.size wb wx)
  case first =>
    --{
    as_aux_lemma =>
      have hsp := HSP.out
      have hbd := HBB.out.1
      have hTr := HH.out.2.1.below HH.out.1.bel
      have x1 := hTr.cell HH.out.2.2.2.2.1 1 (v := .int .i64 x.proc) rfl
      have x17 := hTr.cell HH.out.2.2.2.2.1 17 (v := .slice x.na x.nl x.nc) rfl
      have x13 := hTr.cell HH.out.2.2.2.2.1 13 (v := .int .u64 (x.vn : Int)) rfl
      have x14 := hTr.cell HH.out.2.2.2.2.1 14 (v := .int .u64 (x.vce : Int)) rfl
      have x15 := hTr.cell HH.out.2.2.2.2.1 15 (v := .int .i64 x.vcr) rfl
      have x16 := hTr.cell HH.out.2.2.2.2.1 16 (v := .int .u64 (x.vm : Int)) rfl
      have HCT := Lib.hid (show ∀ z : Bel wb, True from fun _ => trivial)
      cases hsc : s' with
      | none =>
        rw [hsc] at hsp hbd
        replace hsp : SP = .pointer none := hsp
        replace hbd : bb = true := hbd
        subst hsp
        subst hbd
        clear hTr hsc
        refine wp_region_bel (by kernel_rfl) (by kernel_rfl) ?_
        simp only [List.append_eq, List.cons_append, List.nil_append]
        repeat (go_big_quiet_step ((go_at_call 37; with_reducible exact bel_call (HCT.out _))))
        refine wpQuiet_nil ?_
        intro w5 hw5
        have HB5 := Lib.hid (bel_out hw5)
        clear hw5
        clear x1 x17 x13 x14 x15 x16
        go_wp2_with fail
        go_meet
        exact ⟨rfl, HB5.out⟩
      | some k =>
        have hk := HH.out.2.2.2.2.2.2 k hsc
        have hym := List.getElem_mem hk
        rw [hsc] at hsp hbd
        replace hsp : SP = .pointer (some ⟨M.stays[k].b, 0, none⟩) := by rw [hsp]; exact nthJ_at hk
        replace hbd : bb = strange l nm i x M.stays[k].s := by
          rw [hbd]
          unfold strangeB
          simp only [List.getElem?_eq_getElem hk]
        have c7 := jcell HH.out.1.own hym 7 (v := evP g o M.stays[k].s.vw) rfl
        have c11 := jcell HH.out.1.own hym 11 (v := .bool M.stays[k].s.out) rfl
        have hvl := (HH.out.2.2.1.st _ hym).vw
        obtain ⟨yb, hyb⟩ : ∃ b, b = M.stays[k].b := ⟨_, rfl⟩
        rw [← hyb] at c7 c11 hsp
        subst hsp
        unfold strange at hbd
        generalize M.stays[k].s.out = yo at *
        generalize M.stays[k].s.vw = yv at *
        clear hyb hym hk hsc
        cases yv with
        | none =>
          replace hbd : bb = true := hbd
          replace c7 : ∀ z : Bel wb, z.val.cell? ⟨yb, 7, none⟩ = some (.pointer none) := c7
          subst hbd
          clear hTr hvl
          refine wp_region_bel (by kernel_rfl) (by kernel_rfl) ?_
          simp only [List.append_eq, List.cons_append, List.nil_append]
          repeat (go_big_quiet_step ((go_at_call 37; with_reducible exact bel_call (HCT.out _))))
          refine wpQuiet_nil ?_
          intro w5 hw5
          have HB5 := Lib.hid (bel_out hw5)
          clear hw5
          clear x1 x17 x13 x14 x15 x16 c7 c11
          go_wp2_with fail
          go_meet
          exact ⟨rfl, HB5.out⟩
        | some v =>
          have hvll := hvl v rfl
          obtain ⟨xv, hxv⟩ : ∃ xv, l[v]? = some xv := ⟨_, List.getElem?_eq_getElem hvll⟩
          replace c7 : ∀ z : Bel wb, z.val.cell? ⟨yb, 7, none⟩ = some (.pointer (some ⟨g, o + v * 19, none⟩)) := c7
          have v17 := hTr.cell hxv 17 (v := .slice xv.na xv.nl xv.nc) rfl
          have v13 := hTr.cell hxv 13 (v := .int .u64 (xv.vn : Int)) rfl
          have v14 := hTr.cell hxv 14 (v := .int .u64 (xv.vce : Int)) rfl
          have v15 := hTr.cell hxv 15 (v := .int .i64 xv.vcr) rfl
          have v16 := hTr.cell hxv 16 (v := .int .u64 (xv.vm : Int)) rfl
          obtain ⟨hnv1, hnv2⟩ := hTr.nms v hvll
          have hxve : l[v] = xv := (List.getElem?_eq_some_iff.1 hxv).2
          rw [hxve] at hnv1 hnv2
          have hil := (List.getElem?_eq_some_iff.1 HH.out.2.2.2.2.1).1
          have hxe : l[i] = x := (List.getElem?_eq_some_iff.1 HH.out.2.2.2.2.1).2
          obtain ⟨hni1, hni2⟩ := hTr.nms i hil
          rw [hxe] at hni1 hni2
          have hnl9 := (hTr.ok HH.out.2.2.2.2.1).nl
          have hnv9 := (hTr.ok hxv).nl
          simp only [hxv] at hbd
          clear hvl
          cases yo
          rotate_left
          · replace hbd : bb = true := by rw [hbd]; rfl
            subst hbd
            clear hTr hnv1 hnv2 hni1 hni2
            refine wp_region_bel (by kernel_rfl) (by kernel_rfl) ?_
            simp only [List.append_eq, List.cons_append, List.nil_append]
            repeat (go_big_quiet_step ((go_at_call 37; with_reducible exact bel_call (HCT.out _))))
            refine wpQuiet_nil ?_
            intro w5 hw5
            have HB5 := Lib.hid (bel_out hw5)
            clear hw5
            clear x1 x17 x13 x14 x15 x16 c7 c11 v17 v13 v14 v15 v16
            go_wp2_with fail
            go_meet
            exact ⟨rfl, HB5.out⟩
          obtain ⟨nl, hnl⟩ : ∃ n, n = x.nl := ⟨_, rfl⟩
          rw [← hnl] at x17 hni1 hni2 hnl9
          clear hnl
          rw [hni1] at hbd
          by_cases hn1 : nl = 1
          rotate_left
          · have d1 : ((nl : Int) != 1) = true := by simp; omega
            have d1' : (nl != 1) = true := by simpa using hn1
            have d2 : (nl == 1) = false := by simpa using hn1
            replace hbd : bb = true := by rw [hbd, d2]; rfl
            subst hbd
            clear hTr hnv1 hnv2 hni1 hni2 hn1 d2
            refine wp_region_bel (by kernel_rfl) (by kernel_rfl) ?_
            simp only [List.append_eq, List.cons_append, List.nil_append]
            repeat (go_big_quiet_step ((go_at_call 37; with_reducible exact bel_call (HCT.out _))))
            refine wpQuiet_nil ?_
            intro w5 hw5
            have HB5 := Lib.hid (bel_out hw5)
            clear hw5
            clear x1 x17 x13 x14 x15 x16 c7 c11 v17 v13 v14 v15 v16
            go_wp2_with fail
            go_meet
            exact ⟨rfl, HB5.out⟩
          subst hn1
          have hl0 : 0 < (nm i).length := by omega
          rw [← hni1] at hni2
          obtain ⟨gn, on, hna, hgn, n0, n1⟩ := names_cells hni2 hl0
          obtain ⟨nn, hnn⟩ : ∃ nn, nn = (nm i)[0] := ⟨_, rfl⟩
          have hn0 : name0 nm i = nn := by
            rw [hnn]
            unfold name0
            rw [List.headD_eq_head?_getD, List.head?_eq_getElem?, List.getElem?_eq_getElem hl0]
            rfl
          rw [← hnn] at n0 n1
          rw [hn0] at hbd
          have m0 : ∀ z : Bel wb, z.val.cell? ⟨gn, on, none⟩ = some (.int .i64 nn.1) := Bel.cell (by simpa using n0) hgn
          have m1 : ∀ z : Bel wb, z.val.cell? ⟨gn, on + 1, none⟩ = some (.int .u32 (nn.2 : Int)) := Bel.cell (by simpa using n1) hgn
          rw [hna] at x17
          have HCT := Lib.hid (show ∀ z : Bel wb, Calls Tryz.prog 37 #[.slice xv.na xv.nl xv.nc, .agg #[.int .i64 nn.1, .int .u32 (nn.2 : Int)]] z.val fun e w' => e = .returned (.bool ((nm v).contains nn)) ∧ Below z.val.heap.size z.val w' from fun z => by
            rw [← hnv1]
            exact hasName_any nn (nm v) xv.na xv.nc z.val (reads_moreE ((by rw [hnv1]; exact hnv2 : Reads wb wb.heap.size 2 xv.na (nm v).length (namesV (nm v))).below z.prop) z.prop.size) (by rw [hnv1]; omega))
          clear hnv1 hnv2 hni1 hni2 hna hgn n0 n1 hn0 hnn hl0 hTr
          by_cases hpr : nn.1 = x.proc
          rotate_left
          · have d1 : (nn.1 != x.proc) = true := by simpa using hpr
            replace hbd : bb = true := by rw [hbd, decide_eq_false hpr]; rfl
            subst hbd
            clear hpr
            refine wp_region_bel (by kernel_rfl) (by kernel_rfl) ?_
            simp only [List.append_eq, List.cons_append, List.nil_append]
            repeat (go_big_quiet_step ((go_at_call 37; with_reducible exact bel_call (HCT.out _))))
            refine wpQuiet_nil ?_
            intro w5 hw5
            have HB5 := Lib.hid (bel_out hw5)
            clear hw5
            clear x1 x17 x13 x14 x15 x16 c7 c11 v17 v13 v14 v15 v16 m0 m1
            go_wp2_with fail
            go_meet
            exact ⟨rfl, HB5.out⟩
          have d1 : (nn.1 != x.proc) = false := by simpa using hpr
          obtain ⟨hc, hhc⟩ : ∃ b, b = (nm v).contains nn := ⟨_, rfl⟩
          rw [← hhc] at hbd HCT
          clear hhc
          cases hc
          · replace hbd : bb = true := by rw [hbd, decide_eq_true hpr]; rfl
            subst hbd
            clear hpr
            refine wp_region_bel (by kernel_rfl) (by kernel_rfl) ?_
            simp only [List.append_eq, List.cons_append, List.nil_append]
            repeat (go_big_quiet_step ((go_at_call 37; with_reducible exact bel_call (HCT.out _))))
            refine wpQuiet_nil ?_
            intro w5 hw5
            have HB5 := Lib.hid (bel_out hw5)
            clear hw5
            clear x1 x17 x13 x14 x15 x16 c7 c11 v17 v13 v14 v15 v16 m0 m1
            go_wp2_with fail
            go_meet
            exact ⟨rfl, HB5.out⟩
          have hvn := fun W : World => viewNeq W (x.vn : Int) (x.vce : Int) x.vcr (x.vm : Int) (xv.vn : Int) (xv.vce : Int) xv.vcr (xv.vm : Int)
          replace hbd : bb = !((((x.vn : Int) == (xv.vn : Int) && (x.vce : Int) == (xv.vce : Int)) && x.vcr == xv.vcr) && (x.vm : Int) == (xv.vm : Int)) := by
            rw [hbd, decide_eq_true hpr]
            simp only [Bool.not_true, Bool.false_or, beq_self_eq_true]
            congr 1
            rw [Bool.eq_iff_iff]
            simp [viewK, Prod.ext_iff, Int.natCast_inj, and_assoc]
          rw [← hbd] at hvn
          clear hpr hbd
          refine wp_region_bel (by kernel_rfl) (by kernel_rfl) ?_
          simp only [List.append_eq, List.cons_append, List.nil_append]
          repeat (go_big_quiet_step ((go_at_call 37; with_reducible exact bel_call (HCT.out _))))
          refine wpQuiet_nil ?_
          intro w5 hw5
          have HB5 := Lib.hid (bel_out hw5)
          clear hw5
          clear x1 x17 x13 x14 x15 x16 c7 c11 v17 v13 v14 v15 v16 m0 m1 hvn
          go_wp2_with fail
          go_meet
          exact ⟨rfl, HB5.out⟩
    --}
  case rest =>
  obtain ⟨rfl, hbx⟩ := hcut
  have H5 := Lib.hid (HH.out.1.below hbx)
  clear hbx
  have HWR := Lib.hid (show ∀ (b : Bool) w2, Below wc.heap.size wc w2 → Calls Tryz.prog 29 #[.pointer (some ⟨TT, 0, none⟩), .int .i64 3, .bool b] w2 fun e w' => e = .returned (.tuple #[]) ∧ At wB (jparts g o l (M.wr 3 b) ++ R) w' from fun b w2 hb => by rw [HTT.out]; exact jwrong_any (H5.out.below hb) 3 b)
  cases bb
  rotate_left
  · have HTE := Lib.hid (HBB.out.2.1 rfl)
    go_wp2_with fail
    refine (HWR.out true wc (br wc)).mono ?_
    rintro e w2 ⟨rfl, ha⟩
    have HE := Lib.hid (show JTo wB g o l R (n + 1) M.h tE w2 from ⟨_, ha, (HH.out.2.2.1.more (Nat.le_succ n)).wr 3 true, by rw [HTE.out, projJ_wr], rfl⟩)
    clear ha HWR
    go_wp2_with fail
    refine bodyPost_ret (results_none rfl _ _ _) rfl ?_
    exact ⟨rfl, HE.out⟩
  obtain ⟨k, hk, hsk, hte⟩ := HBB.out.2.2 rfl
  have hsp := HSP.out
  rw [hsk] at hsp
  replace hsp : SP = .pointer (some ⟨M.stays[k].b, 0, none⟩) := by rw [hsp]; exact nthJ_at hk
  obtain ⟨y, hy⟩ : ∃ y, y = M.stays[k] := ⟨_, rfl⟩
  have hym : y ∈ M.stays := hy ▸ List.getElem_mem hk
  rw [← hy] at hsp hte
  have HY := Lib.hid (And.intro hk (And.intro hy hym))
  obtain ⟨yb, hyb⟩ : ∃ b, b = y.b := ⟨_, rfl⟩
  rw [← hyb] at hsp
  have HYB := Lib.hid hyb
  subst hsp
  have c9 : wc.cell? ⟨yb, 9, none⟩ = some (evP g o y.s.rd) := by rw [hyb]; exact jcell H5.out.own hym 9 (v := evP g o y.s.rd) rfl ⟨wc, br wc⟩
  have e0 : wc.cell? ⟨g, o + i * 19, none⟩ = some (.int .i64 kd) := by rw [HKD.out]; exact (HH.out.2.1.below H5.out.bel).cell HH.out.2.2.2.2.1 0 (v := .int .i64 x.kind) rfl ⟨wc, br wc⟩
  have hTE : tE = if kd = 11 then ((projJ M).wr 3 y.s.rd.isSome).setS k { y.s with rd := some i }
      else if kd = 8 then (projJ M).wr 3 y.s.rd.isNone
      else if kd = 9 then ((projJ M).wr 3 y.s.rd.isNone).setS k { y.s with ups := y.s.ups ++ [i] }
      else if kd = 12 then (projJ M).setS k { y.s with out := true }
      else projJ M := by rw [hte, HKD.out]; rfl
  have hil : i < l.length := (List.getElem?_eq_some_iff.1 HH.out.2.2.2.2.1).1
  have HIL := Lib.hid hil
  clear hil hsk hte hy hym hyb
  have HWF := Lib.hid (show ∀ (b : Bool) (W : World), At wB (jparts g o l (M.wr 3 b) ++ R) W → ∃ hk : k < (M.wr 3 b).stays.length, (M.wr 3 b).stays[k] = y ∧ y ∈ (M.wr 3 b).stays ∧ W.heap[yb]? = some (.cells (jsC g o y) 56 (0, 0)) ∧ JOk g o l (n + 1) (M.wr 3 b) from fun b W ha => ⟨HY.out.1, HY.out.2.1.symm, HY.out.2.2, by rw [HYB.out]; exact jown_st ha.own HY.out.2.2, (HH.out.2.2.1.more (Nat.le_succ n)).wr 3 b⟩)
  obtain ⟨tq, htq⟩ : ∃ q, q = y.s.rd := ⟨_, rfl⟩
  rw [← htq] at c9 hTE
  have HTQ := Lib.hid htq
  clear htq
  by_cases k11 : kd = 11
  · subst k11
    rw [if_pos rfl] at hTE
    have hE : ∀ b w', b = tq.isSome → At wB (jparts g o l (M.wr 3 b) ++ R) w' → JTo wB g o l R (n + 1) M.h tE (w'.setCell ⟨yb, 9, none⟩ (.pointer (some ⟨g, o + i * 19, none⟩))) ∧ w'.cell? ⟨yb, 9, none⟩ = some (evP g o y.s.rd) ∧ w'.frozen? ⟨yb, 9, none⟩ = false := fun b w' hb ha => by
      rw [hTE, ← hb]
      obtain ⟨hk', hyk, hym, hst, hJ'⟩ := HWF.out b w' ha
      refine ⟨⟨(M.wr 3 b).setS k { y with s := { y.s with rd := some i } }, jown_cell ha hk' (by rw [hyk]) (by rw [hyk]; rfl) (by rw [hyk]; rfl) ?_ ?_, hJ'.setS hk' (by rw [hyk]) ?_, ?_, rfl⟩, (cell_of_row _ _ 9 _ _ _ hst).trans rfl, frozen_of_row _ _ _ _ _ hst⟩
      · show Kept (fun b => b = y.b) _ _
        rw [← HYB.out]
        exact keptS w' ⟨yb, 9, none⟩ _
      · show (w'.setCell ⟨yb, 9, none⟩ _).heap[y.b]? = _
        rw [← HYB.out]
        exact (setCell_block hst 9 _).trans rfl
      · have hx := hJ'.st y hym
        exact ⟨hx.bf, hx.tr, hx.nx, hx.vw, fun e he => by injection he with he; rw [← he]; exact HIL.out, hx.gots, hx.ups, hx.gl, hx.ul⟩
      · rw [projJ_setS, projJ_wr]
    have HE := Lib.hid hE
    clear hE hTE
    cases tq with
    | none =>
      replace c9 : wc.cell? ⟨yb, 9, none⟩ = some (.pointer none) := c9
      go_wp2_with fail
      refine (HWR.out false wc (br wc)).mono ?_
      rintro e w2 ⟨rfl, ha⟩
      obtain ⟨q1, q2, q3⟩ := HE.out _ _ rfl ha
      rw [← HTQ.out] at q2
      have HE := Lib.hid q1
      clear ha HWR c9 e0 q1
      go_wp2_with fail
      go_end0
      exact ⟨rfl, HE.out⟩
    | some q =>
      replace c9 : wc.cell? ⟨yb, 9, none⟩ = some (.pointer (some ⟨g, o + q * 19, none⟩)) := c9
      go_wp2_with fail
      refine (HWR.out true wc (br wc)).mono ?_
      rintro e w2 ⟨rfl, ha⟩
      obtain ⟨q1, q2, q3⟩ := HE.out _ _ rfl ha
      rw [← HTQ.out] at q2
      have HE := Lib.hid q1
      clear ha HWR c9 e0 q1
      go_wp2_with fail
      go_end0
      exact ⟨rfl, HE.out⟩
  have d11 : (kd == 11) = false := by simpa using k11
  rw [if_neg k11] at hTE
  by_cases k8 : kd = 8
  · subst k8
    rw [if_pos rfl] at hTE
    have hE : ∀ b w', b = tq.isNone → At wB (jparts g o l (M.wr 3 b) ++ R) w' → JTo wB g o l R (n + 1) M.h tE w' := fun b w' hb ha => by
      rw [hTE, ← hb]
      exact ⟨_, ha, (HWF.out b w' ha).2.2.2.2, projJ_wr M 3 b, rfl⟩
    have HE := Lib.hid hE
    clear hE hTE k11
    cases tq with
    | none =>
      replace c9 : wc.cell? ⟨yb, 9, none⟩ = some (.pointer none) := c9
      go_wp2_with fail
      refine (HWR.out true wc (br wc)).mono ?_
      rintro e w2 ⟨rfl, ha⟩
      have HE := Lib.hid (HE.out _ _ rfl ha)
      clear ha HWR c9 e0
      go_wp2_with fail
      go_end0
      exact ⟨rfl, HE.out⟩
    | some q =>
      replace c9 : wc.cell? ⟨yb, 9, none⟩ = some (.pointer (some ⟨g, o + q * 19, none⟩)) := c9
      go_wp2_with fail
      refine (HWR.out false wc (br wc)).mono ?_
      rintro e w2 ⟨rfl, ha⟩
      have HE := Lib.hid (HE.out _ _ rfl ha)
      clear ha HWR c9 e0
      go_wp2_with fail
      go_end0
      exact ⟨rfl, HE.out⟩
  have d8 : (kd == 8) = false := by simpa using k8
  rw [if_neg k8] at hTE
  by_cases k9 : kd = 9
  rotate_left
  · have d9 : (kd == 9) = false := by simpa using k9
    rw [if_neg k9] at hTE
    clear HWR
    by_cases k12 : kd = 12
    · subst k12
      rw [if_pos rfl] at hTE
      have hst : wc.heap[yb]? = some (.cells (jsC g o y) 56 (0, 0)) := by rw [HYB.out]; exact jown_st H5.out.own HY.out.2.2
      have f11 : wc.frozen? ⟨yb, 11, none⟩ = false := frozen_of_row _ _ _ _ _ hst
      have c11 : wc.cell? ⟨yb, 11, none⟩ = some (.bool y.s.out) := cell_of_row _ _ 11 _ _ _ hst
      have HE := Lib.hid (show JTo wB g o l R (n + 1) M.h tE (wc.setCell ⟨yb, 11, none⟩ (.bool true)) from by
        rw [hTE]
        have hk := HY.out.1
        have hyk := HY.out.2.1
        refine ⟨M.setS k { y with s := { y.s with out := true } }, jown_cell H5.out hk (by rw [← hyk]) (by rw [← hyk]; rfl) (by rw [← hyk]; rfl) ?_ ?_, (HH.out.2.2.1.more (Nat.le_succ n)).setS hk (by rw [← hyk]) ?_, ?_, rfl⟩
        · show Kept (fun b => b = y.b) _ _
          rw [← HYB.out]
          exact keptS wc ⟨yb, 11, none⟩ _
        · show (wc.setCell ⟨yb, 11, none⟩ _).heap[y.b]? = _
          rw [← HYB.out]
          exact (setCell_block hst 11 _).trans rfl
        · have hx := (HH.out.2.2.1.more (Nat.le_succ n)).st y HY.out.2.2
          exact ⟨hx.bf, hx.tr, hx.nx, hx.vw, hx.rd, hx.gots, hx.ups, hx.gl, hx.ul⟩
        · rw [projJ_setS])
      clear hTE hst c9 k11 k8 k9
      go_wp2_with fail
      go_end0
      exact ⟨rfl, HE.out⟩
    · have d12 : (kd == 12) = false := by simpa using k12
      rw [if_neg k12] at hTE
      have HE := Lib.hid (show JTo wB g o l R (n + 1) M.h tE wc from by rw [hTE]; exact ⟨M, H5.out, HH.out.2.2.1.more (Nat.le_succ n), rfl, rfl⟩)
      clear hTE c9 k11 k8 k9 k12
      go_wp2_with fail
      go_end0
      exact ⟨rfl, HE.out⟩
  subst k9
  rw [if_pos rfl] at hTE
  clear k11 k8
  have HTE := Lib.hid hTE
  clear hTE
  go_upto_region 11 with (fail)
  go_cut [] (fun wx => At wB (jparts g o l (M.wr 3 tq.isNone) ++ R) wx)
  case first =>
    cases tq with
    | none =>
      replace c9 : wc.cell? ⟨yb, 9, none⟩ = some (.pointer none) := c9
      go_wp2_with fail
      refine (HWR.out true wc (br wc)).mono ?_
      rintro e w2 ⟨rfl, ha⟩
      have HE := Lib.hid ha
      clear ha HWR c9 e0
      go_wp2_with fail
      go_meet
      exact HE.out
    | some q =>
      replace c9 : wc.cell? ⟨yb, 9, none⟩ = some (.pointer (some ⟨g, o + q * 19, none⟩)) := c9
      go_wp2_with fail
      refine (HWR.out false wc (br wc)).mono ?_
      rintro e w2 ⟨rfl, ha⟩
      have HE := Lib.hid ha
      clear ha HWR c9 e0
      go_wp2_with fail
      go_meet
      exact HE.out
  case rest =>
  obtain ⟨w5, rfl⟩ : ∃ z, z = wc := ⟨_, rfl⟩
  clear HWR c9 e0 H5
  obtain ⟨hk5, hy5, hym5, hst5, hJ5⟩ := HWF.out _ _ hcut
  obtain ⟨M5, hM5⟩ : ∃ M5, M5 = M.wr 3 tq.isNone := ⟨_, rfl⟩
  rw [← hM5] at hcut hym5 hJ5
  have hk5 : k < M5.stays.length := by rw [hM5]; exact hk5
  have hy5 : M5.stays[k] = y := by simp only [hM5]; exact hy5
  have H5 := Lib.hid (And.intro hcut (And.intro hk5 (And.intro hy5 (And.intro hym5 (And.intro hJ5 hM5)))))
  have HSS := Lib.hid (show ∀ w', Kept (fun b => (sUps l y).blk = some b) w5 w' → w'.cell? ⟨yb, 10, none⟩ = some (.slice y.ua y.s.ups.length y.uc) ∧ w'.rangeAt g (o + i * 19 + 7) (msgA x.m).toList from fun w' hk => by
    have hg2 := hk.keep hst5 (fun e => by
      obtain ⟨c, fz, hc⟩ := Lib.ownsRow_kind (jown_ups hcut.own hym5) yb e
      rw [hst5] at hc
      injection hc with hc
      injection hc with _ hc _
      exact absurd hc (by decide))
    refine ⟨(cell_of_row _ _ 10 _ _ _ hg2).trans rfl, fun j u hu => ?_⟩
    have hgB : g < wB.heap.size := HH.out.2.1.lt HIL.out
    refine (hk.cell (p := ⟨g, o + i * 19 + 7 + j, none⟩) (Nat.lt_of_lt_of_le hgB hcut.bel.size) (fun e => ?_)).trans ((HH.out.2.1.below hcut.bel).msg HH.out.2.2.2.2.1 j u hu)
    have := hcut.own.base (sUps l y) (List.mem_append_left _ (by simp only [jparts, List.mem_cons, List.mem_flatMap]; exact .inr (.inr (.inr (.inr (.inr ⟨y, hym5, by simp [sP]⟩)))))) g e
    omega)
  clear hcut hym5 hJ5 hM5 hst5
  go_upto_region 12 with (fail)
  have hk0 : Kept (fun b => (sUps l y).blk = some b) w5 w5.drew := (Kept.refl _ _).drew
  refine wp_region_mask (fun w' => w'.cell? ⟨yb, 10, none⟩ = some (.slice y.ua y.s.ups.length y.uc) ∧ w'.rangeAt g (o + i * 19 + 7) (msgA x.m).toList) 13 5 [true, true, true, true, true, true, true, true, true, false, false, false, false, false] #[true, true, true, true, true, true, true, true, true, false, false, false, false, false] (by kernel_rfl) (by kernel_rfl) (by kernel_rfl) (HSS.out _ hk0) ?_
  have HK0 := Lib.hid hk0
  have HB0 := Lib.hid (show Below w5.heap.size w5 w5.drew from (br w5).drew)
  clear hk0
  generalize w5.drew = w6 at *
  obtain ⟨i0, hi, hz0, hz1, hz2⟩ := info_parts info31
  have HI := Lib.hid (And.intro hi (And.intro hz0 (And.intro hz1 hz2)))
  clear hi hz0 hz1 hz2
  iterate 8
    refine wpMask_take _ (Or.inl ⟨by rfl, fun w' hS => by obtain ⟨h1, h2⟩ := hS; clear h2; go_simp; try with_reducible rfl⟩) ?_
    simp only [Act.put, List.getElem_toArray, List.getElem_cons_succ, List.getElem_cons_zero, List.setIfInBounds_toArray, List.set_cons_zero, List.set_cons_succ]
  refine wpMask_take _ (yieldsIf_load_mid (by rfl) 31 (.tmp 145) rfl g (o + i * 19 + 7) rfl (msgA x.m).toList _ (fun w' hS => hS.2) Tryz.underlying31 rfl (by kernel_rfl)) ?_
  simp only [Act.put, List.getElem_toArray, List.getElem_cons_succ, List.getElem_cons_zero, List.setIfInBounds_toArray, List.set_cons_zero, List.set_cons_succ]
  iterate 5 refine wpMask_skip ?_
  refine wpMask_nil ?_
  refine wpAnyS_ready (rs := [9]) (by kernel_rfl) (by simp) ?_
  refine AllReadyS.cons rfl (fun T hT => ?_) AllReadyS.nil
  refine step_buildSlice_row rfl 39 (.tmp 146) rfl 31 i0 _ Tryz.underlying39 HI.out.1 HI.out.2.1 (msgA x.m).toList.toArray rfl (by rw [HI.out.2.2.1]; rfl) (by simp [msgA]) (by simp [msgA]) ?_
  have H8 := Lib.hid (HK0.out.alloc (.cells (msgA x.m).toList.toArray 31))
  refine hT.out _ _ (fun _ => HSS.out _ H8.out) ?_
  clear hT T
  simp only [Act.put, List.getElem_toArray, List.getElem_cons_succ, List.getElem_cons_zero, List.setIfInBounds_toArray, List.set_cons_zero, List.set_cons_succ]
  have hown8 := Lib.hid (ownOne w6 0 31 (msgA x.m).toList.toArray 6 rfl (Nat.zero_le _))
  have hbW := ba HB0.out (.cells (msgA x.m).toList.toArray 31)
  have hr8 := Lib.hid (jown_ups ((H5.out.1.below hbW).own) H5.out.2.2.2.1)
  have HBW := Lib.hid hbW
  clear hbW
  generalize w6.alloc (.cells (msgA x.m).toList.toArray 31) = w8 at *
  refine wpAnyS_ready (rs := [10]) (by kernel_rfl) (by simp) ?_
  refine AllReadyS.cons rfl (fun T hT => ?_) AllReadyS.nil
  have hgl := (HH.out.2.2.1.st y HY.out.2.2).ul
  have hn5 := HH.out.2.2.2.1
  refine step_append_any _ rfl (.tmp 142) (.tmp 147) 39 rfl 0 31 i0 _ 6 72 Tryz.underlying39 HI.out.1 HI.out.2.1 HI.out.2.2.1 HI.out.2.2.2 rfl (by decide) _ y.s.ups.length (upsV l y.s.ups) rfl hr8.out _ _ 1 1 (msgA x.m).toList rfl (Reads.of_own hown8.out) (msgA_one x.m) (by unfold maxLen; omega) (by omega) (Nat.zero_le _) ?_
  intro v' w11 ho11 hg11 hu11
  obtain ⟨ad', cap', rfl⟩ := ownForm ho11
  have hK11 : Kept (fun b => (sUps l y).blk = some b) w5 w11 := H8.out.trans ((Kept.of_grown' hg11).more fun k _ e => by
    obtain ⟨b, hb, rfl⟩ := e
    exact hb)
  refine hT.out _ _ (fun _ => HSS.out _ hK11) ?_
  clear hT T
  simp only [Act.put, List.getElem_toArray, List.getElem_cons_succ, List.getElem_cons_zero, List.setIfInBounds_toArray, List.set_cons_zero, List.set_cons_succ]
  have hupp := jown_upp H5.out.1 H5.out.2.1 i ad' cap' (w11 := w11) (by rw [H5.out.2.2.1, upsV_snoc, evMsg_at HH.out.2.2.2.2.1]; exact ho11) (by rw [H5.out.2.2.1]; exact hK11) (by
    rw [H5.out.2.2.1]
    intro b e
    rcases hu11 with h | h
    · left
      rw [h] at e
      exact e
    · right
      rw [h] at e
      injection e with e
      have := HBW.out.size
      omega)
  rw [H5.out.2.2.1] at hupp
  rw [← HYB.out] at hupp
  have q4 : w11.cell? ⟨yb, 10, none⟩ = some (.slice y.ua y.s.ups.length y.uc) := (cell_of_row _ _ 10 _ _ _ hupp.1).trans rfl
  have qf : w11.frozen? ⟨yb, 10, none⟩ = false := frozen_of_row _ _ _ _ _ hupp.1
  have HE := Lib.hid (show JTo wB g o l R (n + 1) M.h tE (w11.setCell ⟨yb, 10, none⟩ (.slice ad' (y.s.ups.length + 1) cap')) from by
    refine ⟨_, hupp.2, ?_, ?_, by rw [H5.out.2.2.2.2.2]; rfl⟩
    · have hx5 := H5.out.2.2.2.2.1.st y H5.out.2.2.2.1
      refine H5.out.2.2.2.2.1.setS H5.out.2.1 (by rw [H5.out.2.2.1]; rfl) ⟨hx5.bf, hx5.tr, hx5.nx, hx5.vw, hx5.rd, hx5.gots, fun p hp => ?_, hx5.gl, ?_⟩
      · have hp : p ∈ y.s.ups ++ [i] := hp
        rcases List.mem_append.1 hp with hp | hp
        · exact hx5.ups p hp
        · rw [List.mem_singleton.1 hp]
          exact HIL.out
      · show (y.s.ups ++ [i]).length ≤ n + 1
        rw [List.length_append, List.length_singleton]
        omega
    · rw [projJ_setS, H5.out.2.2.2.2.2, projJ_wr, HTE.out]
      rfl)
  have HK11 := Lib.hid hK11
  clear hupp hK11 hg11 hu11 ho11 hr8 hown8
  refine wpAnyS_ready (rs := [11]) (by kernel_rfl) (by simp) ?_
  refine AllReadyS.cons rfl (fun T hT => ?_) AllReadyS.nil
  go_simp
  refine hT.out _ _ (fun _ => HSS.out _ HK11.out) ?_
  clear hT T
  simp only [Act.put, List.getElem_toArray, List.getElem_cons_succ, List.getElem_cons_zero, List.setIfInBounds_toArray, List.set_cons_zero, List.set_cons_succ]
  refine wpAnyS_ready (rs := [12]) (by kernel_rfl) (by simp) ?_
  refine AllReadyS.cons rfl (fun T hT => ?_) AllReadyS.nil
  go_simp
  refine hT.out _ _ (fun _ => HSS.out _ HK11.out) ?_
  clear hT T
  simp only [Act.put, List.getElem_toArray, List.getElem_cons_succ, List.getElem_cons_zero, List.setIfInBounds_toArray, List.set_cons_zero, List.set_cons_succ]
  refine wpAnyS_ready (rs := [13]) (by kernel_rfl) (by simp) ?_
  refine AllReadyS.cons rfl (fun T hT => ?_) AllReadyS.nil
  go_simp
  refine hT.out _ _ (fun h => absurd h (by omega)) ?_
  clear hT T
  simp only [Act.put, List.getElem_toArray, List.getElem_cons_succ, List.getElem_cons_zero, List.setIfInBounds_toArray, List.set_cons_zero, List.set_cons_succ]
  refine wpAnyS_done (by kernel_rfl) ?_ _
  go_wp2_with fail
  go_end0
  exact ⟨rfl, HE.out⟩
end Go.Proofs.YtogagkgkmoppmaaGreatDoor
