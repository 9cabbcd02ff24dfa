/-
  The judge of views: what was erased of any trace is answered; the trace stays as it was.
  Conditions: those that each theorem names.
-/
import Derived.Test.YtogagkgkmoppmaaGreatDoorApT
namespace Go.Proofs.YtogagkgkmoppmaaGreatDoor
set_option linter.unusedVariables false
set_option linter.unusedSimpArgs false
open Go.RowKit GM
/-- two rows of messages above a world, apart -/
def ErAt (w1 : World) (na nb : Nat) (u v : Value) (W : World) : Prop := ∃ ka kb xs ys, ka ≤ na ∧ kb ≤ nb ∧ W.ownsRow w1.heap.size 31 6 u ka xs ∧ W.ownsRow w1.heap.size 31 6 v kb ys ∧ (∀ b, u.ownBlock = some b → v.ownBlock ≠ some b) ∧ Below w1.heap.size w1 W
theorem ErAt.below {w1 : World} {na nb : Nat} {u v : Value} {W W' : World} (h : ErAt w1 na nb u v W) (hb : Below W.heap.size W W') : ErAt w1 na nb u v W' := by
  obtain ⟨ka, kb, xs, ys, h1, h2, h3, h4, h5, h6⟩ := h
  exact ⟨ka, kb, xs, ys, h1, h2, own_keptL h3 (Kept.of_below (S := fun _ => False) hb) (fun _ _ h => h), own_keptL h4 (Kept.of_below (S := fun _ => False) hb) (fun _ _ h => h), h5, bt h6 hb⟩
theorem ErAt.mono {w1 : World} {na nb na' nb' : Nat} {u v : Value} {W : World} (h : ErAt w1 na nb u v W) (h1 : na ≤ na') (h2 : nb ≤ nb') : ErAt w1 na' nb' u v W := by
  obtain ⟨ka, kb, xs, ys, g1, g2, h3⟩ := h
  exact ⟨ka, kb, xs, ys, Nat.le_trans g1 h1, Nat.le_trans g2 h2, h3⟩
theorem ErAt.swap {w1 : World} {na nb : Nat} {u v : Value} {W : World} (h : ErAt w1 na nb u v W) : ErAt w1 nb na v u W := by
  obtain ⟨ka, kb, xs, ys, h1, h2, h3, h4, h5, h6⟩ := h
  exact ⟨kb, ka, ys, xs, h2, h1, h4, h3, fun b hb e => h5 b e hb, h6⟩
theorem er_app {B na nb : Nat} {W W' : World} {u u' v : Value} {xs ys : List Value} (hu : W.ownsRow B 31 6 u na xs) (hv : W.ownsRow B 31 6 v nb ys) (hap : ∀ b, u.ownBlock = some b → v.ownBlock ≠ some b) (hg : W.grownBy W' u.ownBlock) (hu' : u'.ownBlock = u.ownBlock ∨ u'.ownBlock = some W.heap.size) :
    W'.ownsRow B 31 6 v nb ys ∧ ∀ b, u'.ownBlock = some b → v.ownBlock ≠ some b := by
  refine ⟨own_keptL hv (S := fun b => u.ownBlock = some b) ⟨hg.os, hg.tape, hg.output, hg.size, fun i hi hs => hg.block i hi (fun e => hs e.symm)⟩ (fun g hg e => hap g e hg), fun b hb => ?_⟩
  rcases hu' with h | h
  · exact hap b (by rw [← h]; exact hb)
  · intro e
    rw [h] at hb
    injection hb with hb
    have := (hv.lt b e).2
    omega
theorem JZ.upsRow {wB w : World} {g o N : Nat} {l : List Ev} {R : List Pc} {M : JM} {z : Int} (h : JZ wB g o l R N M z w) {x : JX} (hx : x ∈ M.stays) : w.ownsRow 0 31 6 (.slice x.ua x.s.ups.length x.uc) x.s.ups.length (upsV l x.s.ups) := by
  obtain ⟨t, b, h1, h2, _⟩ := h
  exact jown_ups (M := (M.nd z).bd b) h1.own hx
theorem JZ.outer {wB w : World} {g o N : Nat} {l : List Ev} {R : List Pc} {M : JM} {z : Int} (h : JZ wB g o l R N M z w) : At wB R w := by
  obtain ⟨t, b, h1, h2, _⟩ := h
  exact ⟨h1.own.sub (List.sublist_append_right _ _), h1.bel⟩
set_option maxRecDepth 100000 in
set_option maxHeartbeats 16000000 in
theorem erased_gen {wB w : World} {g o : Nat} {l : List Ev} {nm : Nat → List NameK} {R : List Pc} (h : At wB R w) (hT : Tr wB g o l nm) (ad : Option Addr) (had : 0 < l.length → ad = some ⟨g, o, none⟩) (cap : Nat) (hcap : l.length ≤ cap) (hl : l.length ≤ 500) (p : Int) :
    Calls Tryz.prog 9 #[.slice ad l.length cap, .int .i64 p] w fun e w' => (∃ v, e = .returned v) ∧ At wB R w' := by
  have HR := Lib.hid (through_cap h hT ad had cap (by omega))
  have HT := Lib.hid (And.intro hT hl)
  obtain ⟨t, ht⟩ : ∃ t, t = thru l nm l.length := ⟨_, rfl⟩
  rw [← ht] at HR
  clear h hT had hl hcap ht
  generalize hln : l.length = ln at *
  have HLN := Lib.hid hln
  clear hln
  obtain ⟨i0, hi, hz0, hz1, hz2⟩ := info_parts info31
  go_enter Tryz.func9, Tryz.ntmps9
  go_wp2_with fail
  refine HR.out.mono ?_
  rintro e w1 ⟨H, ⟨rfl, hlc⟩, M, hA, hJ, hP, hH⟩
  obtain ⟨TT, hTT⟩ : ∃ T, T = H.T := ⟨_, rfl⟩
  have hz : JZ wB g o l R ln M M.named w1 := ⟨projJ M, M.bad, hA, hJ, rfl⟩
  obtain ⟨ns, hns⟩ : ∃ k, k = M.stays.length := ⟨_, rfl⟩
  have hn9 : ns ≤ 500 := by rw [hns]; exact Nat.le_trans hJ.n HT.out.2
  obtain ⟨sa, hsa⟩ : ∃ k, k = M.sa := ⟨_, rfl⟩
  obtain ⟨sc, hsc⟩ : ∃ k, k = M.sc := ⟨_, rfl⟩
  have c1 : w1.cell? ⟨TT, 1, none⟩ = some (.slice sa ns sc) := by
    rw [hTT, ← hH, hsa, hns, hsc]
    exact hz.trace.2.2.2 ⟨w1, br w1⟩
  have HZ := Lib.hid hz
  have HH := Lib.hid (And.intro hns (And.intro hsa (show ln ≤ 500 from HT.out.2)))
  have H0 := Lib.hid (show ErAt w1 (0 * 500) (0 * 500) (.slice none 0 0) (.slice none 0 0) w1 from ⟨0, 0, [], [], Nat.le_refl _, Nat.le_refl _, ⟨rfl, .inl ⟨rfl, rfl⟩⟩, ⟨rfl, .inl ⟨rfl, rfl⟩⟩, fun b h => (by cases h), br w1⟩)
  rw [← hTT]
  clear hA hJ hP hH hTT hns hsa hsc HR hz hlc
  go_wp2_with fail
  clear c1
  go_loopw [6, 7, 20] (fun a b i wr => ∃ k : Nat, k ≤ ns ∧ i = .int .i64 (k : Int) ∧ Hid (ErAt w1 (k * 500) (k * 500) a b wr)) (fun _ _ i _ => ns - (intOf i).toNat)
  case atStart => exact ⟨0, by omega, rfl, H0⟩
  case round =>
    obtain ⟨k, hk, rfl, HW⟩ := hrel
    by_cases hkn : k < ns
    · have hr1 : decide ((k : Int) < (ns : Int)) = true := by rw [decide_eq_true_eq]; omega
      have hr2 : decide (k < ns) = true := by rw [decide_eq_true_eq]; omega
      have hr3 : (k : Int) < (ns : Int) := by omega
      have hkl : k < M.stays.length := by rw [← HH.out.1]; exact hkn
      obtain ⟨ka, kb, xs, ys, _, _, ho1, ho2, _, hbw⟩ := HW.out
      obtain ⟨a1, cc1, rfl⟩ := ownFormL ho1
      obtain ⟨a2, cc2, rfl⟩ := ownFormL ho2
      clear ho1 ho2
      obtain ⟨bq, hsb, hbq, hcell⟩ := (HZ.out.below hbw).nth hkl
      obtain ⟨y, hy⟩ : ∃ y, y = M.stays[k] := ⟨_, rfl⟩
      have hym : y ∈ M.stays := hy ▸ List.getElem_mem hkl
      rw [← hy] at hcell
      obtain ⟨yb, hyb⟩ : ∃ z, z = y.b := ⟨_, rfl⟩
      unfold ptrV at hcell
      rw [← hyb] at hcell
      have hcl : ∀ (i : Nat) {v : Value}, (jsC g o y)[i]? = some v → ∀ W, Below w1.heap.size w1 W → W.cell? ⟨yb, i, none⟩ = some v := fun i v hv W hW => by rw [hyb]; exact HZ.out.cell hym i hv ⟨W, hW⟩
      have y0 := hcl 0 (v := .int .i64 y.s.proc) rfl wr hbw
      obtain ⟨pn, hpn⟩ : ∃ q, evP g o y.s.nx = .pointer q := ⟨_, rfl⟩
      obtain ⟨pr, hpr⟩ : ∃ q, evP g o y.s.rd = .pointer q := ⟨_, rfl⟩
      have y6 := hcl 6 (v := .pointer pn) (by rw [← hpn]; rfl) wr hbw
      have y9 := hcl 9 (v := .pointer pr) (by rw [← hpr]; rfl) wr hbw
      have hcell : wr.cell? ⟨bq, k, none⟩ = some (.pointer (some ⟨yb, 0, none⟩)) := hcell
      have hsa' : sa = some ⟨bq, 0, none⟩ := HH.out.2.1.trans hsb
      have HKN := Lib.hid hkn
      have HCL := Lib.hid hcl
      have HY := Lib.hid (And.intro hym hyb)
      subst hsa'
      clear hkl hsb hbq hy hym hyb hkn H0 hcl hbw hpn hpr
      generalize y.s.proc = yp at *
      by_cases hpp : yp = p
      rotate_left
      · have d1 : (yp != p) = true := by simpa using hpp
        clear hpp
        go_wp2_with fail
        exact ⟨⟨k + 1, HKN.out, by go_num, Lib.hid (HW.out.mono (by omega) (by omega))⟩, by have := HKN.out; simp [intOf]; omega⟩
      have d1 : (yp != p) = false := by simpa using hpp
      clear hpp
      rcases pn with _ | pn
      · go_wp2_with fail
        exact ⟨⟨k + 1, HKN.out, by go_num, Lib.hid (HW.out.mono (by omega) (by omega))⟩, by have := HKN.out; simp [intOf]; omega⟩
      rcases pr with _ | pr
      · go_wp2_with fail
        exact ⟨⟨k + 1, HKN.out, by go_num, Lib.hid (HW.out.mono (by omega) (by omega))⟩, by have := HKN.out; simp [intOf]; omega⟩
      obtain ⟨q, hq⟩ : ∃ q, q = y.s.gots.length := ⟨_, rfl⟩
      have hq9 : q ≤ 500 := by rw [hq]; exact Nat.le_trans (HZ.out.xok HY.out.1).gl HH.out.2.2
      have y4 : wr.cell? ⟨yb, 4, none⟩ = some (.slice y.ga q y.gc) := by
        obtain ⟨_, _, _, _, _, _, _, _, _, hbw⟩ := HW.out
        rw [hq]
        exact HCL.out 4 rfl wr hbw
      have HG0 := Lib.hid (And.intro (HZ.out.gots HT.out.1 (by have := HH.out.2.2; omega) HY.out.1) hq)
      have H1 := Lib.hid (HW.out.mono (na' := k * 500 + 0) (nb' := k * 500) (by omega) (by omega))
      clear hq HW
      generalize y.ga = ga at *
      generalize y.gc = gc at *
      go_wp2_with fail
      clear y0 y4 y6 y9 hcell d1
      go_loopw [6, 49] (fun a i wr => ∃ e : Nat, e ≤ q ∧ i = .int .i64 (e : Int) ∧ Hid (ErAt w1 (k * 500 + e) (k * 500) a (.slice a2 kb cc2) wr)) (fun _ i _ => q - (intOf i).toNat)
      case atStart => exact ⟨0, by omega, rfl, H1⟩
      case round =>
        obtain ⟨e, he, rfl, HW⟩ := hrel
        by_cases heq : e < q
        · have hr1 : decide ((e : Int) < (q : Int)) = true := by rw [decide_eq_true_eq]; omega
          have hr2 : decide (e < q) = true := by rw [decide_eq_true_eq]; omega
          have hr3 : (e : Int) < (q : Int) := by omega
          obtain ⟨kc, kd, xc, xd, hkc, _, ho, ho2, hap, hB⟩ := HW.out
          obtain ⟨a3, cc3, rfl⟩ := ownFormL ho
          have hel : e < y.s.gots.length := by rw [← HG0.out.2]; exact heq
          obtain ⟨hmr, g2, o2, hga, hg2, hrg⟩ := (HG0.out.1.below hB).at_ e hel
          obtain ⟨pg, hp⟩ : ∃ p, p = y.s.gots[e] := ⟨_, rfl⟩
          have hgl : pg.1 < l.length := by rw [hp]; exact (HZ.out.xok HY.out.1).gots _ (List.getElem_mem hel)
          rw [← hp] at hmr hrg
          clear hp
          obtain ⟨cg, hcg⟩ : ∃ c, c = (gotC l pg).toArray := ⟨_, rfl⟩
          have y1 : cg.size = 8 := by rw [hcg]; rfl
          have p1 : cg.all (·.oneCell') = true := by rw [hcg]; simp [gotC, msgA, Value.oneCell']
          have hc1 : cg.toList.toArray = cg := by simp
          replace hrg : wr.rangeAt g2 (o2 + e * 8) cg.toList := by rw [hcg]; exact hrg
          obtain ⟨X, hX⟩ : ∃ X, X = wr.heap.size := ⟨_, rfl⟩
          have hz := heap_alloc_new wr (.cells zGotR 58)
          have hbz := ba (br wr) (.cells zGotR 58)
          rw [← hX] at hz
          obtain ⟨w3, hw3⟩ : ∃ w3, w3 = (wr.alloc (.cells zGotR 58)).setRow X cg := ⟨_, rfl⟩
          have hb3 : Below wr.heap.size wr w3 := by rw [hw3]; exact (kept_setRow' (wr.alloc (.cells zGotR 58)) X cg).out hbz hbz.size (fun k hk' e => by omega)
          have hx3 : w3.heap[X]? = some (.cells cg 58 (0, 0)) := by rw [hw3]; exact setRow_heap _ _ _ _ _ _ hz
          obtain ⟨x, hx⟩ : ∃ x, x = gotM l pg := ⟨_, rfl⟩
          have x6 : w3.cell? ⟨X, 1 + 5, none⟩ = some (.string x.pay) := (cell_of_row _ _ 6 _ _ _ hx3).trans (by rw [hcg, hx]; rfl)
          have hps : x.pay.size ≤ 140737488351232 := by
            have hxl : l[pg.1]? = some l[pg.1] := List.getElem?_eq_getElem hgl
            rw [hx]
            unfold gotM
            rw [evMsg_at hxl]
            exact ((HT.out.1.below (HZ.out.below hB).bel).ok hxl).pay
          have HI := Lib.hid (item_any x.pay w3 (by omega))
          have HZ3 := Lib.hid (And.intro hz hX)
          have HG := Lib.hid (And.intro hrg (And.intro y1 p1))
          have HE3 := Lib.hid (show ErAt w1 (k * 500 + e) (k * 500) (.slice a3 kc cc3) (.slice a2 kb cc2) w3 from HW.out.below hb3)
          have HX3 := Lib.hid (And.intro hx3 (And.intro hcg (And.intro hx heq)))
          rw [hga]
          clear hmr hg2 hrg hcg y1 p1 hX hz hbz hb3 hx3 hel ho ho2 hap hB hx hkc hps hgl HW heq
          generalize x.pay = pay at *
          have hmz : zGotR = #[.int .i64 0, .int .i64 0, .int .u32 0, .int .u64 0, .int .i64 0, .slice none 0 0, .string ⟨#[]⟩, .bool false] := rfl
          rw [hmz] at hw3 HZ3
          clear hmz
          go_upto_region 9 with (first
            | (with_reducible refine wpList_load_mid rfl 58 (.tmp 51) rfl g2 (o2 + e * 8) rfl cg.toList _ HG.out.1 Tryz.underlying58 rfl (by rw [Array.length_toList, HG.out.2.1]; kernel_rfl) ?_)
            | (refine wpList_store_row rfl 58 (.tmp 11) (.tmp 52) rfl X cg (by rw [HZ3.out.2]; rfl) (by rw [← hc1]; rfl) 58 _ HZ3.out.1 (by rw [HG.out.2.1]; kernel_rfl) (by rw [HG.out.2.1]; rfl) HG.out.2.2 ?_)
            | fail)
          rw [← hw3, ← HZ3.out.2]
          clear hw3 hc1 HZ3
          go_wp2_with fail
          refine HI.out.mono ?_
          rintro e3 w4 ⟨⟨C, zz, rfl, hC1, hC2, _, kk, hC0, _⟩, hb4⟩
          obtain ⟨Y, hY⟩ : ∃ Y, Y = w4.heap.size := ⟨_, rfl⟩
          have hz := heap_alloc_new w4 (.cells (itA zeroI none 0) 63)
          have hbz := ba (br w4) (.cells (itA zeroI none 0) 63)
          rw [← hY] at hz
          obtain ⟨w5, hw5⟩ : ∃ y, y = (w4.alloc (.cells (itA zeroI none 0) 63)).setRow Y C := ⟨_, rfl⟩
          have hb5 : Below w4.heap.size w4 w5 := by rw [hw5]; exact (kept_setRowL _ Y C).out hbz hbz.size (fun q hq e => by omega)
          have hy5 : w5.heap[Y]? = some (.cells C 63 (0, 0)) := by rw [hw5]; exact setRow_heap _ _ _ _ _ _ hz
          have k0 : w5.cell? ⟨Y, 0, none⟩ = some (.int .i64 kk) := (cell_of_row _ _ 0 _ _ _ hy5).trans (by rw [← hC0])
          have hx5 : w5.heap[X]? = some (.cells cg 58 (0, 0)) := ((bt hb4 hb5).block _ (Array.getElem?_eq_some_iff.1 HX3.out.1).1).trans HX3.out.1
          have HE5 := Lib.hid (show ErAt w1 (k * 500 + e) (k * 500) (.slice a3 kc cc3) (.slice a2 kb cc2) w5 from HE3.out.below (bt hb4 hb5))
          have HZ5 := Lib.hid (And.intro hz (And.intro hC1 (And.intro hC2 hY)))
          have hw5' : w5 = (w4.alloc (.cells #[.int .i64 0, .string ⟨#[]⟩, .int .u32 0, .int .u64 0, .bool false, .bool false, .int .u64 0, .int .u64 0, .int .i64 0, .int .u64 0, .slice none 0 0, .int .u64 0, .int .u64 0, .int .i64 0, .int .u64 0, .int .u64 0, .int .i64 0, .int .i64 0] 63)).setRow Y C := hw5
          have kq0 := Bel.cell k0 (cell_lt k0)
          obtain ⟨at1, hat1⟩ : ∃ a : Int, a = (pg.1 : Int) := ⟨_, rfl⟩
          have xq0 := Bel.cell (show w5.cell? ⟨X, 0, none⟩ = some (.int .i64 at1) from (cell_of_row _ _ 0 _ _ _ hx5).trans (by rw [HX3.out.2.1, hat1]; rfl)) (Array.getElem?_eq_some_iff.1 hx5).1
          obtain ⟨va, hva⟩ : ∃ a : Int, a = (y.s.va : Int) := ⟨_, rfl⟩
          have yq8 : ∀ z : Bel w5, z.val.cell? ⟨yb, 8, none⟩ = some (.int .i64 va) := fun z => by
            obtain ⟨_, _, _, _, _, _, _, _, _, hbw⟩ := HE5.out
            rw [hva]
            exact HCL.out 8 rfl z.val (bt hbw z.prop)
          have HX5 := Lib.hid hx5
          clear hz hbz hw5 hb5 hy5 hb4 hC1 hC2 hC0 hY HI x6 k0 hx5 hat1 hva HE3
          go_upto_region 10 with (first
            | (refine wpList_store_row rfl 63 (.tmp 12) (.tmp 58) rfl Y C (by rw [HZ5.out.2.2.2]; rfl) rfl 63 _ HZ5.out.1 (by rw [HZ5.out.2.1]; kernel_rfl) (by rw [HZ5.out.2.1]; rfl) HZ5.out.2.2.1 ?_)
            | fail)
          rw [← hw5', ← HZ5.out.2.2.2]
          clear hw5'
          go_cut [6, 11, 75] (fun s6 s11 s75 wx => s6 = .slice a3 kc cc3 ∧ s11 = .pointer (some ⟨X, 0, none⟩) ∧ (∃ b : Bool, s75 = .bool b) ∧ Below w5.heap.size w5 wx)
          case first =>
            obtain ⟨b1, hb1⟩ : ∃ b, b = (zz == 0) := ⟨_, rfl⟩
            obtain ⟨b2, hb2⟩ : ∃ b, b = (kk == 1) := ⟨_, rfl⟩
            have hb1' := hb1.symm
            have hb2' := hb2.symm
            clear hb1 hb2
            cases b1
            · refine wp_region_bel (by kernel_rfl) (by kernel_rfl) ?_
              repeat (go_big_quiet_step ((fail)))
              refine wpQuiet_nil ?_
              intro w7 hw7
              have H7 := Lib.hid (bel_out hw7)
              clear hw7 kq0 xq0 yq8
              go_wp2_with fail
              go_meet
              exact ⟨rfl, rfl, ⟨_, rfl⟩, H7.out⟩
            · cases b2
              · refine wp_region_bel (by kernel_rfl) (by kernel_rfl) ?_
                repeat (go_big_quiet_step ((fail)))
                refine wpQuiet_nil ?_
                intro w7 hw7
                have H7 := Lib.hid (bel_out hw7)
                clear hw7 kq0 xq0 yq8
                go_wp2_with fail
                go_meet
                exact ⟨rfl, rfl, ⟨_, rfl⟩, H7.out⟩
              · refine wp_region_bel (by kernel_rfl) (by kernel_rfl) ?_
                repeat (go_big_quiet_step ((fail)))
                refine wpQuiet_nil ?_
                intro w7 hw7
                have H7 := Lib.hid (bel_out hw7)
                clear hw7 kq0 xq0 yq8
                go_wp2_with fail
                go_meet
                exact ⟨rfl, rfl, ⟨_, rfl⟩, H7.out⟩
          case rest =>
          obtain ⟨rfl, rfl, ⟨bz, rfl⟩, hbc⟩ := hcut
          have HEC := Lib.hid (show ErAt w1 (k * 500 + e) (k * 500) (.slice a3 kc cc3) (.slice a2 kb cc2) wc from HE5.out.below hbc)
          have hxc : wc.heap[X]? = some (.cells cg 58 (0, 0)) := (hbc.block _ (Array.getElem?_eq_some_iff.1 HX5.out).1).trans HX5.out
          have HEQ := Lib.hid HX3.out.2.2.2
          have HXC := Lib.hid hxc
          clear hbc HE5 kq0 xq0 yq8 hxc HX5
          cases bz
          · have HE := Lib.hid (HEC.out.mono (na' := k * 500 + (e + 1)) (nb' := k * 500) (by omega) (Nat.le_refl _))
            clear HEC
            go_wp2_with fail
            exact ⟨⟨e + 1, HEQ.out, by go_num, HE⟩, by have := HEQ.out; simp [intOf]; omega⟩
          · obtain ⟨ke, kf, xe, xf, hke, hkf, hoa, hob, hap, hbw⟩ := HEC.out
            obtain rfl : kc = ke := by
              obtain ⟨_, _, hv⟩ := ownFormL hoa
              injection hv
            have hkB : kc ≤ 300000 := by have := HKN.out; omega
            obtain ⟨x, hx⟩ : ∃ x, x = gotM l pg := ⟨_, rfl⟩
            have hcell : ∀ i v, (gotC l pg)[i]? = some v → wc.cell? ⟨X, i, none⟩ = some v := fun i v h => (cell_of_row _ _ i _ _ _ HXC.out).trans (by rw [HX3.out.2.1]; simpa using h)
            have x1 : wc.cell? ⟨X, 1, none⟩ = some (.int .i64 x.frm) := by rw [hx]; exact hcell 1 _ rfl
            have x2 : wc.cell? ⟨X, 1 + 1, none⟩ = some (.int .u32 (x.seq : Int)) := by rw [hx]; exact hcell 2 _ rfl
            have x3 : wc.cell? ⟨X, 1 + 2, none⟩ = some (.int .u64 (x.stamp : Int)) := by rw [hx]; exact hcell 3 _ rfl
            have x4 : wc.cell? ⟨X, 1 + 3, none⟩ = some (.int .i64 x.service) := by rw [hx]; exact hcell 4 _ rfl
            have x5 : wc.cell? ⟨X, 1 + 4, none⟩ = some (.slice x.da x.ds.length x.dc) := by rw [hx]; exact hcell 5 _ rfl
            have x6 : wc.cell? ⟨X, 1 + 5, none⟩ = some (.string x.pay) := by rw [hx]; exact hcell 6 _ rfl
            have HOA := Lib.hid (And.intro hoa (And.intro hob (And.intro hap (And.intro hbw (And.intro hke hkf)))))
            have hszc : w1.heap.size ≤ wc.heap.size := hbw.size
            clear hcell hx hoa hob hap hbw hke hkf HEC HXC
            go_wp2_with (first
              | (at_builtin; refine wpList_append_any _ rfl (.tmp 76) (.tmp 79) 39 rfl w1.heap.size 31 i0 _ 6 72 Tryz.underlying39 hi hz0 hz1 hz2 rfl (by decide) _ kc _ rfl (HOA.out.1.alloc _) (wc.heap.size + 1) (some ⟨wc.heap.size, 0, none⟩) 1 1 (msgA x).toList rfl (reads_new wc x) (msgA_one x) (by unfold maxLen; omega) (by omega) (by simp; omega) ?_)
              | fail)
            intro v6 w6 ho6 hg6 hu6
            obtain ⟨hbr, hap6⟩ := er_app (HOA.out.1.alloc _) (HOA.out.2.1.alloc _) HOA.out.2.2.1 hg6 (hu6.imp id (fun h => by rw [h]; simp))
            have hb6 : Below w1.heap.size w1 w6 := grownB (ba HOA.out.2.2.2.1 _) (ba HOA.out.2.2.2.1 _).size hg6 (fun b hb => (HOA.out.1.lt b hb).1)
            have HE := Lib.hid (show ErAt w1 (k * 500 + (e + 1)) (k * 500) v6 (.slice a2 kb cc2) w6 from ⟨kc + 1, kf, _, _, by have := HOA.out.2.2.2.2.1; omega, HOA.out.2.2.2.2.2, ho6, hbr, hap6, hb6⟩)
            obtain ⟨a6, c6, rfl⟩ := ownFormL ho6
            clear ho6 hg6 hu6 hbr hap6 hb6 x1 x2 x3 x4 x5 x6 hszc HOA hkB
            go_wp2_with fail
            exact ⟨⟨e + 1, HEQ.out, by go_num, HE⟩, by have := HEQ.out; simp [intOf]; omega⟩
        · have hr1 : decide ((e : Int) < (q : Int)) = false := by simpa using heq
          have hr2 : decide (e < q) = false := by simpa using heq
          obtain ⟨ke, kf, xe, xf, hke, hkf, hoa, hob, hap, hbw⟩ := HW.out
          obtain ⟨a3, cc3, rfl⟩ := ownFormL hoa
          obtain rfl : kb = kf := by
            obtain ⟨_, _, hv⟩ := ownFormL hob
            injection hv
          have hkB : kb ≤ 300000 := by have := HKN.out; omega
          have hup := (HZ.out.below hbw).upsRow HY.out.1
          have hul : y.s.ups.length ≤ 500 := Nat.le_trans (HZ.out.xok HY.out.1).ul HH.out.2.2
          have u10 := HCL.out 10 (v := .slice y.ua y.s.ups.length y.uc) rfl wr hbw
          have hone : ∀ u ∈ upsV l y.s.ups, u.oneCell' = true := rowsM_one _
          obtain ⟨ul, hull⟩ : ∃ n, n = y.s.ups.length := ⟨_, rfl⟩
          rw [← hull] at hup hul u10
          generalize y.ua = ua at *
          generalize y.uc = uc at *
          have HOA := Lib.hid (And.intro hoa (And.intro hob (And.intro hap (And.intro hbw (And.intro hke (And.intro hkf (And.intro hup hone)))))))
          have hszc : w1.heap.size ≤ wr.heap.size := hbw.size
          have HUL := Lib.hid hul
          have hb9 : kb + ul ≤ 400000 := by omega
          clear hoa hob hap hbw hke hkf hup hone hull H1 HW heq hul
          go_wp2_with (first
            | (at_builtin; refine wpList_append_any _ rfl (.tmp 82) (.tmp 86) 39 rfl w1.heap.size 31 i0 _ 6 72 Tryz.underlying39 hi hz0 hz1 hz2 rfl (by decide) _ kb _ rfl HOA.out.2.1 _ ua ul uc (upsV l y.s.ups) rfl (Reads.of_own HOA.out.2.2.2.2.2.2.1) HOA.out.2.2.2.2.2.2.2 (by unfold maxLen; omega) (by omega) (by omega) ?_)
            | fail)
          intro v6 w6 ho6 hg6 hu6
          obtain ⟨hbr, hap6⟩ := er_app HOA.out.2.1 HOA.out.1 (fun b hb e => HOA.out.2.2.1 b e hb) hg6 hu6
          have hb6 : Below w1.heap.size w1 w6 := grownB HOA.out.2.2.2.1 HOA.out.2.2.2.1.size hg6 (fun b hb => (HOA.out.2.1.lt b hb).1)
          have HE := Lib.hid (show ErAt w1 ((k + 1) * 500) ((k + 1) * 500) (.slice a3 ke cc3) v6 w6 from ⟨ke, kb + ul, _, _, by have := HOA.out.2.2.2.2.1; omega, by have := HOA.out.2.2.2.2.2.1; have := HUL.out; omega, hbr, ho6, fun b hb e => hap6 b e hb, hb6⟩)
          obtain ⟨a6, c6, rfl⟩ := ownFormL ho6
          clear ho6 hg6 hu6 hbr hap6 hb6 hszc HOA hkB u10 hb9
          go_wp2_with fail
          exact ⟨⟨k + 1, HKN.out, by go_num, HE⟩, by have := HKN.out; simp [intOf]; omega⟩
    · have hr1 : decide ((k : Int) < (ns : Int)) = false := by rw [decide_eq_false_iff_not]; omega
      have hr2 : decide (k < ns) = false := by rw [decide_eq_false_iff_not]; omega
      obtain ⟨ka, kb, xs, ys, _, _, ho1, ho2, _, hbw⟩ := HW.out
      have HE := Lib.hid (show At wB R wr from (HZ.out.below hbw).outer)
      clear HW H0 hkn ho1 ho2 hbw
      go_wp2_with fail
      go_ret2
      exact ⟨⟨_, rfl⟩, HE.out⟩
end Go.Proofs.YtogagkgkmoppmaaGreatDoor
