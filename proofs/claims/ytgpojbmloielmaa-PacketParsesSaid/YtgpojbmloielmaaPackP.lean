/-
  What the reference's Clean returns: what its kind names, in the same memory.
  Conditions: those that each theorem names.
-/
import Derived.Test.YtgpojbmloielmaaPackO
namespace Go.Proofs.Ytgpojbmloielmaa
set_option linter.unusedVariables false
set_option linter.unusedSimpArgs false
open Go.RowKit
def hasB (L : List Nat) (x : Int) : Bool := L.any fun n => decide ((n : Int) = x)
theorem has_in (L : List Nat) (f : Int) (j : Nat) (hj : j < L.length) (h : (L[j] : Int) = f) : hasB L f = true :=
  List.any_eq_true.2 ⟨L[j], List.getElem_mem hj, by simpa using h⟩
theorem has_out (L : List Nat) (f : Int) (h : ∀ m (hm : m < L.length), (L[m] : Int) ≠ f) : hasB L f = false := by
  rw [← Bool.not_eq_true]
  intro hm
  obtain ⟨x, hx, e⟩ := List.any_eq_true.1 hm
  obtain ⟨m, hm, rfl⟩ := List.getElem_of_mem hx
  exact h m hm (by simpa using e)
set_option maxHeartbeats 4000000 in
theorem has_any (k : Int) (hk : 1 ≤ k ∧ k ≤ 11) (f : Int) (w : World) : Calls Try.prog 36 #[.string (rowB k), .int .u8 f] w fun e w' => e = .returned (.bool (hasB (rowL k) f)) ∧ w' = w := by
  obtain ⟨hrs, hr5, hrg⟩ := row_get hk
  generalize rowB k = r at *
  generalize rowL k = L at *
  obtain ⟨n, hn⟩ : ∃ n, n = L.length := ⟨_, rfl⟩
  have hrn : r.size = n := by rw [hn]; exact hrs
  have hn5 : n ≤ 5 := by rw [hn]; exact hr5
  obtain ⟨b, hb⟩ : ∃ b, b = hasB L f := ⟨_, rfl⟩
  rw [← hb]
  have HL := Lib.hid (And.intro hn (And.intro hb hrg))
  clear hrs hr5 hrg hn hb
  go_enter Try.func36, Try.ntmps36
  go_wp2_with fail
  go_loopw [5] (fun i wr => ∃ j : Nat, j ≤ n ∧ i = .int .i64 (j : Int) ∧ Hid (∀ m (hm : m < L.length), m < j → (L[m] : Int) ≠ f) ∧ wr = w) (fun i _ => n - (intOf i).toNat)
  case atStart => exact ⟨0, by omega, rfl, fun m _ h => absurd h (by omega), rfl⟩
  case round =>
    obtain ⟨j, hj, rfl, HJ, rfl⟩ := hrel
    by_cases hlt : j < n
    · have hbool : decide ((j : Int) < (n : Int)) = true := by simpa using hlt
      have hji : (j : Int) < (n : Int) := by omega
      have hjl : j < L.length := by rw [← HL.out.1]; exact hlt
      obtain ⟨hidx, hjunk⟩ := HL.out.2.2 j hjl
      clear hjunk
      obtain ⟨x, hx⟩ : ∃ x, x = L[j] := ⟨_, rfl⟩
      rw [← hx] at hidx
      by_cases he : (x : Int) = f
      · have hbt : b = true := by rw [HL.out.2.1]; exact has_in L f j hjl (by rw [← hx]; exact he)
        subst he
        subst hbt
        clear hjl hx
        go_wp2_with fail
        go_ret
        exact ⟨rfl, rfl⟩
      · have he1 : ((x : Int) == f) = false := by simpa using he
        have he3 : decide ((x : Int) = f) = false := by simpa using he
        have HE := Lib.hid (show ∀ m (hm : m < L.length), m < j + 1 → (L[m] : Int) ≠ f from fun m hm h => by
          by_cases hmj : m = j
          · subst hmj; rw [← hx]; exact he
          · exact HJ.out m hm (by omega))
        have HLT := Lib.hid hlt
        clear hjl he hx hlt
        go_wp2_with fail
        exact ⟨⟨j + 1, HLT.out, by go_num, HE, by first | rfl | trivial⟩, measI HLT.out⟩
    · have hbool : decide ((j : Int) < (n : Int)) = false := by simpa using hlt
      have hbt : b = false := by rw [HL.out.2.1]; exact has_out L f (fun m hm => HJ.out m hm (by have := HL.out.1; omega))
      subst hbt
      go_wp2_with fail
      go_ret
      exact ⟨rfl, rfl⟩
set_option maxRecDepth 100000 in
set_option maxHeartbeats 8000000 in
theorem RCln1_any (p : Pkt) (w : World) (hkd : p.kind = 1) : Calls Try.prog 17 #[.agg (pktA p)] w fun e w' => e = .returned (.agg (pktA (selP p))) ∧ Below w.heap.size w w' := by
  obtain ⟨N, hN⟩ : ∃ N, N = w.heap.size := ⟨_, rfl⟩
  obtain ⟨W, hW⟩ : ∃ W, W = (w.alloc (.cells (pktA p) 35)).alloc (.cells (pktA zeroP) 35) := ⟨_, rfl⟩
  obtain ⟨Z, hZ⟩ : ∃ Z, Z = pktA (selZ p) := ⟨_, rfl⟩
  have hbld := bldP p
  rw [← hZ] at hbld
  have hs : OwnSt w W p := by rw [hW]; exact two_st w p
  have hsz : W.heap.size = N + 1 + 1 := by rw [hW, hN]; simp
  have hza := heap_alloc_new W (.cells (pktA zeroP) 35)
  rw [hsz] at hza
  obtain ⟨W4, hW4⟩ : ∃ W4, W4 = (W.alloc (.cells (pktA zeroP) 35)).setRow (N + 1 + 1) Z := ⟨_, rfl⟩
  have hst : ClnSt w W4 p (selZ p) := by
    rw [hW4]
    refine ⟨(hs.below (ba (br W) _)).kept (kept_setRow _ _ _) (fun k hk => by rw [hk, hN]; omega), ?_⟩
    rw [← hN, ← hZ]
    exact setRow_heap _ _ _ _ _ _ hza
  have HN := Lib.hid hN
  have HSZ := Lib.hid hsz
  have HZ := Lib.hid (And.intro (show Z.size = 22 by rw [hZ]; rfl) (show Z.all (·.oneCell') = true by rw [hZ]; exact oneCell_pktA _))
  have hma : pktA p = #[.int .i64 1, .int .i64 p.frm, .int .i64 p.dst, .int .u64 (p.ce : Int), .int .i64 p.cr, .int .i64 p.m.frm, .int .u32 (p.m.seq : Int), .int .u64 (p.m.stamp : Int), .int .i64 p.m.service, .slice p.m.da p.m.ds.length p.m.dc, .string p.m.pay, .int .u64 (p.stamp : Int), .int .u32 (p.sent : Int), .slice p.ga p.got.length p.gc, .int .u64 (p.hor : Int), .int .i64 p.whom, .int .u32 (p.seq : Int), .int .u64 (p.mem : Int), .int .u64 (p.pe : Int), .int .i64 p.pr, .int .u64 (p.epoch : Int), .slice p.xa p.xs.length p.xc] := by rw [pktA, hkd]
  have hmz : pktA zeroP = #[.int .i64 0, .int .i64 0, .int .i64 0, .int .u64 0, .int .i64 0, .int .i64 0, .int .u32 0, .int .u64 0, .int .i64 0, .slice none 0 0, .string ⟨#[]⟩, .int .u64 0, .int .u32 0, .slice none 0 0, .int .u64 0, .int .i64 0, .int .u32 0, .int .u64 0, .int .u64 0, .int .i64 0, .int .u64 0, .slice none 0 0] := rfl
  have hr := range_of_block hs.a
  rw [← hN] at hr
  have c0 : W.cell? ⟨N, 0, none⟩ = some (.int .i64 1) := by rw [← hkd]; exact hr 0 _ rfl
  have c1 : W.cell? ⟨N, 1, none⟩ = some (.int .i64 p.frm) := hr 1 _ rfl
  have c2 : W.cell? ⟨N, 2, none⟩ = some (.int .i64 p.dst) := hr 2 _ rfl
  obtain ⟨R, hR⟩ : ∃ R, R = Value.agg (pktA (selP p)) := ⟨_, rfl⟩
  rw [← hR]
  rw [hma, hmz] at hW
  rw [hmz] at hW4 hza
  rw [hma]
  rw [hkd] at hbld
  have HBD := Lib.hid (And.intro hbld hza)
  have HQ := Lib.hid hkd
  have HST := Lib.hid hst
  have HR := Lib.hid hR
  clear hmz hma hs hst hsz hr hZ hbld hza hR hkd
  go_enter Try.func17, Try.ntmps17
  go_upto_region 1 with (fail)
  rw [← hW, ← hN]
  clear hW hN
  refine wp_region_lit ?_
  iterate 6
    refine wpList_step (fun K hK => ?_)
    go_simp
    refine hK _ _ ?_
    clear hK K
    (try simp only [Act.put, List.setIfInBounds_toArray, List.set_cons_zero, List.set_cons_succ])
  refine wpList_buildZ rfl 35 #[(0, .tmp 6), (1, .tmp 8), (2, .tmp 10)] rfl Z (by simp only [List.map_toArray, List.map_cons, List.map_nil]; exact HBD.out.1) ?_
  (try simp only [Act.put, List.setIfInBounds_toArray, List.set_cons_zero, List.set_cons_succ])
  iterate 1
    refine wpList_step (fun K hK => ?_)
    go_simp
    refine hK _ _ ?_
    clear hK K
    (try simp only [Act.put, List.setIfInBounds_toArray, List.set_cons_zero, List.set_cons_succ])
  refine wpList_store_row rfl 35 (.tmp 3) (.tmp 11) rfl (N + 1 + 1) Z (by rw [← HSZ.out]; rfl) rfl 35 _ HBD.out.2 (by rw [HZ.out.1]; kernel_rfl) (by rw [HZ.out.1]; rfl) HZ.out.2 ?_
  (try simp only [Act.put, List.setIfInBounds_toArray, List.set_cons_zero, List.set_cons_succ])
  refine wpList_nil ?_
  rw [← hW4, HSZ.out]
  clear hW4 c0 c1 c2 HBD HZ
  have hG : ∀ (x : Int) (W' : World), Calls Try.prog 36 #[.string (rowB 1), .int .u8 x] W' fun e w' => e = .returned (.bool (hasB (rowL 1) x)) ∧ W' = w' := fun x W' => (has_any 1 (by omega) x W').mono fun _ _ h => ⟨h.1, h.2.symm⟩
  have hrow : ∀ W' : World, Calls Try.prog 25 #[.int .i64 1] W' fun e w' => e = .returned (.string (rowB 1)) ∧ Below W'.heap.size W' w' := fun W' => refRow_any 1 (by omega) W'
  have bm : hasB (rowL 1) 109 = true := by decide
  have bs : hasB (rowL 1) 115 = false := by decide
  have bw : hasB (rowL 1) 119 = false := by decide
  have bq : hasB (rowL 1) 113 = false := by decide
  have bp : hasB (rowL 1) 112 = false := by decide
  have bb : hasB (rowL 1) 98 = false := by decide
  have bx : hasB (rowL 1) 120 = false := by decide
  have bl : hasB (rowL 1) 108 = false := by decide
  generalize rowB 1 = r at hG hrow
  generalize hasB (rowL 1) = HB at *
  have HHAS := Lib.hid hG
  have HROW := Lib.hid hrow
  clear hrow hG
  have c0 : W4.cell? ⟨N, 0, none⟩ = some (.int .i64 1) := by rw [← HQ.out]; exact (HST.out.src HN.out) 0 _ rfl
  go_upto_region 4 with (fail)
  go_wp2_with fail
  refine (HROW.out _).mono ?_
  rintro e w5 ⟨rfl, hb5⟩
  have HS5 := Lib.hid (show ClnSt w w5 p (selZ p) from ⟨HST.out.st.below hb5, (hb5.block _ (Array.getElem?_eq_some_iff.1 HST.out.q).1).trans HST.out.q⟩)
  clear hb5 HST c0 HROW
  have c3 : w5.cell? ⟨N, 3, none⟩ = some (.int .u64 (p.ce : Int)) := (HS5.out.src HN.out) 3 _ rfl
  have c4 : w5.cell? ⟨N, 4, none⟩ = some (.int .i64 p.cr) := (HS5.out.src HN.out) 4 _ rfl
  have d3 : w5.cell? ⟨N + 1 + 1, 3, none⟩ = some (.int .u64 0) := (HS5.out.dst HN.out 3).1
  have f3 : w5.frozen? ⟨N + 1 + 1, 3, none⟩ = false := (HS5.out.dst HN.out 3).2
  have d4 : w5.cell? ⟨N + 1 + 1, 4, none⟩ = some (.int .i64 0) := (HS5.out.dst HN.out 4).1
  have f4 : w5.frozen? ⟨N + 1 + 1, 4, none⟩ = false := (HS5.out.dst HN.out 4).2
  obtain ⟨V0, hV⟩ : ∃ V0, V0 = ((w5.setCell ⟨N + 1 + 1, 3, none⟩ (.int .u64 (p.ce : Int))).setCell ⟨N + 1 + 1, 4, none⟩ (.int .i64 p.cr)) := ⟨_, rfl⟩
  have HV0 := Lib.hid (show ClnSt w V0 p (selC p) from by
    rw [hV, HN.out]
    exact (HS5.out.set (r := { selZ p with ce := p.ce }) 3 _ rfl).set 4 _ rfl)
  go_upto_region 6 with ((go_at_call 36; refine (HHAS.out _ _).mono ?_; rintro e w' ⟨rfl, rfl⟩))
  rw [← hV]
  clear hV c3 c4 d3 f3 d4 f4
  have c5 : V0.cell? ⟨N, 5, none⟩ = some (.int .i64 p.m.frm) := (HV0.out.src HN.out) 5 _ rfl
  have c6 : V0.cell? ⟨N, 6, none⟩ = some (.int .u32 (p.m.seq : Int)) := (HV0.out.src HN.out) 6 _ rfl
  have c7 : V0.cell? ⟨N, 7, none⟩ = some (.int .u64 (p.m.stamp : Int)) := (HV0.out.src HN.out) 7 _ rfl
  have c8 : V0.cell? ⟨N, 8, none⟩ = some (.int .i64 p.m.service) := (HV0.out.src HN.out) 8 _ rfl
  have c9 : V0.cell? ⟨N, 9, none⟩ = some (.slice p.m.da p.m.ds.length p.m.dc) := (HV0.out.src HN.out) 9 _ rfl
  have c10 : V0.cell? ⟨N, 10, none⟩ = some (.string p.m.pay) := (HV0.out.src HN.out) 10 _ rfl
  have d5 : V0.cell? ⟨N + 1 + 1, 5, none⟩ = some (.int .i64 0) := (HV0.out.dst HN.out 5).1
  have f5 : V0.frozen? ⟨N + 1 + 1, 5, none⟩ = false := (HV0.out.dst HN.out 5).2
  have d6 : V0.cell? ⟨N + 1 + 1, 6, none⟩ = some (.int .u32 0) := (HV0.out.dst HN.out 6).1
  have f6 : V0.frozen? ⟨N + 1 + 1, 6, none⟩ = false := (HV0.out.dst HN.out 6).2
  have d7 : V0.cell? ⟨N + 1 + 1, 7, none⟩ = some (.int .u64 0) := (HV0.out.dst HN.out 7).1
  have f7 : V0.frozen? ⟨N + 1 + 1, 7, none⟩ = false := (HV0.out.dst HN.out 7).2
  have d8 : V0.cell? ⟨N + 1 + 1, 8, none⟩ = some (.int .i64 0) := (HV0.out.dst HN.out 8).1
  have f8 : V0.frozen? ⟨N + 1 + 1, 8, none⟩ = false := (HV0.out.dst HN.out 8).2
  have d9 : V0.cell? ⟨N + 1 + 1, 9, none⟩ = some (.slice none 0 0) := (HV0.out.dst HN.out 9).1
  have f9 : V0.frozen? ⟨N + 1 + 1, 9, none⟩ = false := (HV0.out.dst HN.out 9).2
  have d10 : V0.cell? ⟨N + 1 + 1, 10, none⟩ = some (.string ⟨#[]⟩) := (HV0.out.dst HN.out 10).1
  have f10 : V0.frozen? ⟨N + 1 + 1, 10, none⟩ = false := (HV0.out.dst HN.out 10).2
  obtain ⟨V1, hV⟩ : ∃ V1, V1 = ((((((V0.setCell ⟨N + 1 + 1, 5, none⟩ (.int .i64 p.m.frm)).setCell ⟨N + 1 + 1, 6, none⟩ (.int .u32 (p.m.seq : Int))).setCell ⟨N + 1 + 1, 7, none⟩ (.int .u64 (p.m.stamp : Int))).setCell ⟨N + 1 + 1, 8, none⟩ (.int .i64 p.m.service)).setCell ⟨N + 1 + 1, 9, none⟩ (.slice p.m.da p.m.ds.length p.m.dc)).setCell ⟨N + 1 + 1, 10, none⟩ (.string p.m.pay)) := ⟨_, rfl⟩
  have HV1 := Lib.hid (show ClnSt w V1 p ({ selC p with m := p.m }) from by
    rw [hV, HN.out]
    exact ((((((HV0.out).set (r := { selC p with m := { (selC p : Pkt).m with frm := p.m.frm } }) 5 _ rfl).set (r := { selC p with m := { (selC p : Pkt).m with frm := p.m.frm, seq := p.m.seq } }) 6 _ rfl).set (r := { selC p with m := { (selC p : Pkt).m with frm := p.m.frm, seq := p.m.seq, stamp := p.m.stamp } }) 7 _ rfl).set (r := { selC p with m := { (selC p : Pkt).m with frm := p.m.frm, seq := p.m.seq, stamp := p.m.stamp, service := p.m.service } }) 8 _ rfl).set (r := { selC p with m := { (selC p : Pkt).m with frm := p.m.frm, seq := p.m.seq, stamp := p.m.stamp, service := p.m.service, ds := p.m.ds, da := p.m.da, dc := p.m.dc } }) 9 _ rfl).set (r := { selC p with m := p.m }) 10 _ rfl)
  go_upto_region 8 with ((go_at_call 36; refine (HHAS.out _ _).mono ?_; rintro e w' ⟨rfl, rfl⟩))
  rw [← hV]
  clear hV c5 c6 c7 c8 c9 c10 d5 f5 d6 f6 d7 f7 d8 f8 d9 f9 d10 f10
  have c1 : V1.cell? ⟨N, 1, none⟩ = some (.int .i64 p.frm) := (HV1.out.src HN.out) 1 _ rfl
  have d5 : V1.cell? ⟨N + 1 + 1, 5, none⟩ = some (.int .i64 p.m.frm) := (HV1.out.dst HN.out 5).1
  have f5 : V1.frozen? ⟨N + 1 + 1, 5, none⟩ = false := (HV1.out.dst HN.out 5).2
  obtain ⟨V2, hV⟩ : ∃ V2, V2 = (V1.setCell ⟨N + 1 + 1, 5, none⟩ (.int .i64 p.frm)) := ⟨_, rfl⟩
  have HV2 := Lib.hid (show ClnSt w V2 p ({ selC p with m := { p.m with frm := p.frm } }) from by
    rw [hV, HN.out]
    exact HV1.out.set 5 _ rfl)
  go_upto_region 27 with ((go_at_call 36; refine (HHAS.out _ _).mono ?_; rintro e w' ⟨rfl, rfl⟩))
  rw [← hV]
  clear hV c1 d5 f5
  have hq : { selC p with m := { p.m with frm := p.frm } } = selP p := by unfold selP; have := HQ.out; simp [this]
  have hA := (show ClnSt w V2 p (selP p) from by rw [← hq]; exact HV2.out).q
  have hB := (HV2.out : ClnSt w V2 p _).st
  generalize hAA : pktA (selP p) = A at hA HR
  have HA := Lib.hid (And.intro (show V2.heap[N + 1 + 1]? = some (.cells A 35 (0, 0)) by rw [HN.out]; exact hA) (And.intro (show A.size = 22 by rw [← hAA]; rfl) (And.intro (show A.all (·.oneCell') = true by rw [← hAA]; exact oneCell_pktA _) (show V2.heap[N + 1]? = some (.cells (pktA zeroP) 35 (0, 0)) by rw [HN.out]; exact hB.b))))
  have HE := Lib.hid (And.intro HR.out (show Below w.heap.size w (V2.setRow (N + 1) A) from (kept_setRow _ _ _).out hB.bel hB.bel.size (fun k hk' e => by rw [HN.out] at e; omega)))
  clear hA hB hAA hq
  go_wp2_with (first
    | (refine wpList_load_row rfl 35 (.tmp 3) rfl (N + 1 + 1) rfl 35 A (0, 0) _ HA.out.1 Try.underlying35 rfl (by rw [HA.out.2.1]; kernel_rfl) ?_)
    | (refine wpList_store_row rfl 35 (.tmp 2) (.tmp 88) rfl (N + 1) A rfl rfl 35 _ HA.out.2.2.2 (by rw [HA.out.2.1]; kernel_rfl) (by rw [HA.out.2.1]; rfl) HA.out.2.2.1 ?_))
  refine bodyPost_ret (results_cell_row Try.results17 _ _ (N + 1) 35 A (0, 0) _ rfl (setRow_heap _ _ _ _ _ _ HA.out.2.2.2) Try.underlying35 rfl (by rw [HA.out.2.1]; kernel_rfl)) rfl ?_
  exact ⟨by rw [HE.out.1], HE.out.2⟩
set_option maxRecDepth 100000 in
set_option maxHeartbeats 8000000 in
theorem RCln2_any (p : Pkt) (w : World) (hkd : p.kind = 2) : Calls Try.prog 17 #[.agg (pktA p)] w fun e w' => e = .returned (.agg (pktA (selP p))) ∧ Below w.heap.size w w' := by
  obtain ⟨N, hN⟩ : ∃ N, N = w.heap.size := ⟨_, rfl⟩
  obtain ⟨W, hW⟩ : ∃ W, W = (w.alloc (.cells (pktA p) 35)).alloc (.cells (pktA zeroP) 35) := ⟨_, rfl⟩
  obtain ⟨Z, hZ⟩ : ∃ Z, Z = pktA (selZ p) := ⟨_, rfl⟩
  have hbld := bldP p
  rw [← hZ] at hbld
  have hs : OwnSt w W p := by rw [hW]; exact two_st w p
  have hsz : W.heap.size = N + 1 + 1 := by rw [hW, hN]; simp
  have hza := heap_alloc_new W (.cells (pktA zeroP) 35)
  rw [hsz] at hza
  obtain ⟨W4, hW4⟩ : ∃ W4, W4 = (W.alloc (.cells (pktA zeroP) 35)).setRow (N + 1 + 1) Z := ⟨_, rfl⟩
  have hst : ClnSt w W4 p (selZ p) := by
    rw [hW4]
    refine ⟨(hs.below (ba (br W) _)).kept (kept_setRow _ _ _) (fun k hk => by rw [hk, hN]; omega), ?_⟩
    rw [← hN, ← hZ]
    exact setRow_heap _ _ _ _ _ _ hza
  have HN := Lib.hid hN
  have HSZ := Lib.hid hsz
  have HZ := Lib.hid (And.intro (show Z.size = 22 by rw [hZ]; rfl) (show Z.all (·.oneCell') = true by rw [hZ]; exact oneCell_pktA _))
  have hma : pktA p = #[.int .i64 2, .int .i64 p.frm, .int .i64 p.dst, .int .u64 (p.ce : Int), .int .i64 p.cr, .int .i64 p.m.frm, .int .u32 (p.m.seq : Int), .int .u64 (p.m.stamp : Int), .int .i64 p.m.service, .slice p.m.da p.m.ds.length p.m.dc, .string p.m.pay, .int .u64 (p.stamp : Int), .int .u32 (p.sent : Int), .slice p.ga p.got.length p.gc, .int .u64 (p.hor : Int), .int .i64 p.whom, .int .u32 (p.seq : Int), .int .u64 (p.mem : Int), .int .u64 (p.pe : Int), .int .i64 p.pr, .int .u64 (p.epoch : Int), .slice p.xa p.xs.length p.xc] := by rw [pktA, hkd]
  have hmz : pktA zeroP = #[.int .i64 0, .int .i64 0, .int .i64 0, .int .u64 0, .int .i64 0, .int .i64 0, .int .u32 0, .int .u64 0, .int .i64 0, .slice none 0 0, .string ⟨#[]⟩, .int .u64 0, .int .u32 0, .slice none 0 0, .int .u64 0, .int .i64 0, .int .u32 0, .int .u64 0, .int .u64 0, .int .i64 0, .int .u64 0, .slice none 0 0] := rfl
  have hr := range_of_block hs.a
  rw [← hN] at hr
  have c0 : W.cell? ⟨N, 0, none⟩ = some (.int .i64 2) := by rw [← hkd]; exact hr 0 _ rfl
  have c1 : W.cell? ⟨N, 1, none⟩ = some (.int .i64 p.frm) := hr 1 _ rfl
  have c2 : W.cell? ⟨N, 2, none⟩ = some (.int .i64 p.dst) := hr 2 _ rfl
  obtain ⟨R, hR⟩ : ∃ R, R = Value.agg (pktA (selP p)) := ⟨_, rfl⟩
  rw [← hR]
  rw [hma, hmz] at hW
  rw [hmz] at hW4 hza
  rw [hma]
  rw [hkd] at hbld
  have HBD := Lib.hid (And.intro hbld hza)
  have HQ := Lib.hid hkd
  have HST := Lib.hid hst
  have HR := Lib.hid hR
  clear hmz hma hs hst hsz hr hZ hbld hza hR hkd
  go_enter Try.func17, Try.ntmps17
  go_upto_region 1 with (fail)
  rw [← hW, ← hN]
  clear hW hN
  refine wp_region_lit ?_
  iterate 6
    refine wpList_step (fun K hK => ?_)
    go_simp
    refine hK _ _ ?_
    clear hK K
    (try simp only [Act.put, List.setIfInBounds_toArray, List.set_cons_zero, List.set_cons_succ])
  refine wpList_buildZ rfl 35 #[(0, .tmp 6), (1, .tmp 8), (2, .tmp 10)] rfl Z (by simp only [List.map_toArray, List.map_cons, List.map_nil]; exact HBD.out.1) ?_
  (try simp only [Act.put, List.setIfInBounds_toArray, List.set_cons_zero, List.set_cons_succ])
  iterate 1
    refine wpList_step (fun K hK => ?_)
    go_simp
    refine hK _ _ ?_
    clear hK K
    (try simp only [Act.put, List.setIfInBounds_toArray, List.set_cons_zero, List.set_cons_succ])
  refine wpList_store_row rfl 35 (.tmp 3) (.tmp 11) rfl (N + 1 + 1) Z (by rw [← HSZ.out]; rfl) rfl 35 _ HBD.out.2 (by rw [HZ.out.1]; kernel_rfl) (by rw [HZ.out.1]; rfl) HZ.out.2 ?_
  (try simp only [Act.put, List.setIfInBounds_toArray, List.set_cons_zero, List.set_cons_succ])
  refine wpList_nil ?_
  rw [← hW4, HSZ.out]
  clear hW4 c0 c1 c2 HBD HZ
  have hG : ∀ (x : Int) (W' : World), Calls Try.prog 36 #[.string (rowB 2), .int .u8 x] W' fun e w' => e = .returned (.bool (hasB (rowL 2) x)) ∧ W' = w' := fun x W' => (has_any 2 (by omega) x W').mono fun _ _ h => ⟨h.1, h.2.symm⟩
  have hrow : ∀ W' : World, Calls Try.prog 25 #[.int .i64 2] W' fun e w' => e = .returned (.string (rowB 2)) ∧ Below W'.heap.size W' w' := fun W' => refRow_any 2 (by omega) W'
  have bm : hasB (rowL 2) 109 = false := by decide
  have bs : hasB (rowL 2) 115 = true := by decide
  have bw : hasB (rowL 2) 119 = false := by decide
  have bq : hasB (rowL 2) 113 = false := by decide
  have bp : hasB (rowL 2) 112 = false := by decide
  have bb : hasB (rowL 2) 98 = false := by decide
  have bx : hasB (rowL 2) 120 = false := by decide
  have bl : hasB (rowL 2) 108 = false := by decide
  generalize rowB 2 = r at hG hrow
  generalize hasB (rowL 2) = HB at *
  have HHAS := Lib.hid hG
  have HROW := Lib.hid hrow
  clear hrow hG
  have c0 : W4.cell? ⟨N, 0, none⟩ = some (.int .i64 2) := by rw [← HQ.out]; exact (HST.out.src HN.out) 0 _ rfl
  go_upto_region 4 with (fail)
  go_wp2_with fail
  refine (HROW.out _).mono ?_
  rintro e w5 ⟨rfl, hb5⟩
  have HS5 := Lib.hid (show ClnSt w w5 p (selZ p) from ⟨HST.out.st.below hb5, (hb5.block _ (Array.getElem?_eq_some_iff.1 HST.out.q).1).trans HST.out.q⟩)
  clear hb5 HST c0 HROW
  have c3 : w5.cell? ⟨N, 3, none⟩ = some (.int .u64 (p.ce : Int)) := (HS5.out.src HN.out) 3 _ rfl
  have c4 : w5.cell? ⟨N, 4, none⟩ = some (.int .i64 p.cr) := (HS5.out.src HN.out) 4 _ rfl
  have d3 : w5.cell? ⟨N + 1 + 1, 3, none⟩ = some (.int .u64 0) := (HS5.out.dst HN.out 3).1
  have f3 : w5.frozen? ⟨N + 1 + 1, 3, none⟩ = false := (HS5.out.dst HN.out 3).2
  have d4 : w5.cell? ⟨N + 1 + 1, 4, none⟩ = some (.int .i64 0) := (HS5.out.dst HN.out 4).1
  have f4 : w5.frozen? ⟨N + 1 + 1, 4, none⟩ = false := (HS5.out.dst HN.out 4).2
  obtain ⟨V0, hV⟩ : ∃ V0, V0 = ((w5.setCell ⟨N + 1 + 1, 3, none⟩ (.int .u64 (p.ce : Int))).setCell ⟨N + 1 + 1, 4, none⟩ (.int .i64 p.cr)) := ⟨_, rfl⟩
  have HV0 := Lib.hid (show ClnSt w V0 p (selC p) from by
    rw [hV, HN.out]
    exact (HS5.out.set (r := { selZ p with ce := p.ce }) 3 _ rfl).set 4 _ rfl)
  go_upto_region 6 with ((go_at_call 36; refine (HHAS.out _ _).mono ?_; rintro e w' ⟨rfl, rfl⟩))
  rw [← hV]
  clear hV c3 c4 d3 f3 d4 f4
  have c11 : V0.cell? ⟨N, 11, none⟩ = some (.int .u64 (p.stamp : Int)) := (HV0.out.src HN.out) 11 _ rfl
  have d11 : V0.cell? ⟨N + 1 + 1, 11, none⟩ = some (.int .u64 0) := (HV0.out.dst HN.out 11).1
  have f11 : V0.frozen? ⟨N + 1 + 1, 11, none⟩ = false := (HV0.out.dst HN.out 11).2
  obtain ⟨V1, hV⟩ : ∃ V1, V1 = (V0.setCell ⟨N + 1 + 1, 11, none⟩ (.int .u64 (p.stamp : Int))) := ⟨_, rfl⟩
  have HV1 := Lib.hid (show ClnSt w V1 p ({ selC p with stamp := p.stamp }) from by
    rw [hV, HN.out]
    exact HV0.out.set 11 _ rfl)
  go_upto_region 11 with ((go_at_call 36; refine (HHAS.out _ _).mono ?_; rintro e w' ⟨rfl, rfl⟩))
  rw [← hV]
  clear hV c11 d11 f11
  have c12 : V1.cell? ⟨N, 12, none⟩ = some (.int .u32 (p.sent : Int)) := (HV1.out.src HN.out) 12 _ rfl
  have d12 : V1.cell? ⟨N + 1 + 1, 12, none⟩ = some (.int .u32 0) := (HV1.out.dst HN.out 12).1
  have f12 : V1.frozen? ⟨N + 1 + 1, 12, none⟩ = false := (HV1.out.dst HN.out 12).2
  obtain ⟨V2, hV⟩ : ∃ V2, V2 = (V1.setCell ⟨N + 1 + 1, 12, none⟩ (.int .u32 (p.sent : Int))) := ⟨_, rfl⟩
  have HV2 := Lib.hid (show ClnSt w V2 p ({ selC p with stamp := p.stamp, sent := p.sent }) from by
    rw [hV, HN.out]
    exact HV1.out.set 12 _ rfl)
  go_upto_region 12 with ((go_at_call 36; refine (HHAS.out _ _).mono ?_; rintro e w' ⟨rfl, rfl⟩))
  rw [← hV]
  clear hV c12 d12 f12
  have c13 : V2.cell? ⟨N, 13, none⟩ = some (.slice p.ga p.got.length p.gc) := (HV2.out.src HN.out) 13 _ rfl
  have d13 : V2.cell? ⟨N + 1 + 1, 13, none⟩ = some (.slice none 0 0) := (HV2.out.dst HN.out 13).1
  have f13 : V2.frozen? ⟨N + 1 + 1, 13, none⟩ = false := (HV2.out.dst HN.out 13).2
  obtain ⟨V3, hV⟩ : ∃ V3, V3 = (V2.setCell ⟨N + 1 + 1, 13, none⟩ (.slice p.ga p.got.length p.gc)) := ⟨_, rfl⟩
  have HV3 := Lib.hid (show ClnSt w V3 p ({ selC p with stamp := p.stamp, sent := p.sent, got := p.got, ga := p.ga, gc := p.gc }) from by
    rw [hV, HN.out]
    exact HV2.out.set 13 _ rfl)
  go_upto_region 13 with ((go_at_call 36; refine (HHAS.out _ _).mono ?_; rintro e w' ⟨rfl, rfl⟩))
  rw [← hV]
  clear hV c13 d13 f13
  have c14 : V3.cell? ⟨N, 14, none⟩ = some (.int .u64 (p.hor : Int)) := (HV3.out.src HN.out) 14 _ rfl
  have d14 : V3.cell? ⟨N + 1 + 1, 14, none⟩ = some (.int .u64 0) := (HV3.out.dst HN.out 14).1
  have f14 : V3.frozen? ⟨N + 1 + 1, 14, none⟩ = false := (HV3.out.dst HN.out 14).2
  obtain ⟨V4, hV⟩ : ∃ V4, V4 = (V3.setCell ⟨N + 1 + 1, 14, none⟩ (.int .u64 (p.hor : Int))) := ⟨_, rfl⟩
  have HV4 := Lib.hid (show ClnSt w V4 p ({ selC p with stamp := p.stamp, sent := p.sent, got := p.got, ga := p.ga, gc := p.gc, hor := p.hor }) from by
    rw [hV, HN.out]
    exact HV3.out.set 14 _ rfl)
  go_upto_region 27 with ((go_at_call 36; refine (HHAS.out _ _).mono ?_; rintro e w' ⟨rfl, rfl⟩))
  rw [← hV]
  clear hV c14 d14 f14
  have hq : { selC p with stamp := p.stamp, sent := p.sent, got := p.got, ga := p.ga, gc := p.gc, hor := p.hor } = selP p := by unfold selP; have := HQ.out; simp [this]
  have hA := (show ClnSt w V4 p (selP p) from by rw [← hq]; exact HV4.out).q
  have hB := (HV4.out : ClnSt w V4 p _).st
  generalize hAA : pktA (selP p) = A at hA HR
  have HA := Lib.hid (And.intro (show V4.heap[N + 1 + 1]? = some (.cells A 35 (0, 0)) by rw [HN.out]; exact hA) (And.intro (show A.size = 22 by rw [← hAA]; rfl) (And.intro (show A.all (·.oneCell') = true by rw [← hAA]; exact oneCell_pktA _) (show V4.heap[N + 1]? = some (.cells (pktA zeroP) 35 (0, 0)) by rw [HN.out]; exact hB.b))))
  have HE := Lib.hid (And.intro HR.out (show Below w.heap.size w (V4.setRow (N + 1) A) from (kept_setRow _ _ _).out hB.bel hB.bel.size (fun k hk' e => by rw [HN.out] at e; omega)))
  clear hA hB hAA hq
  go_wp2_with (first
    | (refine wpList_load_row rfl 35 (.tmp 3) rfl (N + 1 + 1) rfl 35 A (0, 0) _ HA.out.1 Try.underlying35 rfl (by rw [HA.out.2.1]; kernel_rfl) ?_)
    | (refine wpList_store_row rfl 35 (.tmp 2) (.tmp 88) rfl (N + 1) A rfl rfl 35 _ HA.out.2.2.2 (by rw [HA.out.2.1]; kernel_rfl) (by rw [HA.out.2.1]; rfl) HA.out.2.2.1 ?_))
  refine bodyPost_ret (results_cell_row Try.results17 _ _ (N + 1) 35 A (0, 0) _ rfl (setRow_heap _ _ _ _ _ _ HA.out.2.2.2) Try.underlying35 rfl (by rw [HA.out.2.1]; kernel_rfl)) rfl ?_
  exact ⟨by rw [HE.out.1], HE.out.2⟩
set_option maxRecDepth 100000 in
set_option maxHeartbeats 8000000 in
theorem RCln3_any (p : Pkt) (w : World) (hkd : p.kind = 3) : Calls Try.prog 17 #[.agg (pktA p)] w fun e w' => e = .returned (.agg (pktA (selP p))) ∧ Below w.heap.size w w' := by
  obtain ⟨N, hN⟩ : ∃ N, N = w.heap.size := ⟨_, rfl⟩
  obtain ⟨W, hW⟩ : ∃ W, W = (w.alloc (.cells (pktA p) 35)).alloc (.cells (pktA zeroP) 35) := ⟨_, rfl⟩
  obtain ⟨Z, hZ⟩ : ∃ Z, Z = pktA (selZ p) := ⟨_, rfl⟩
  have hbld := bldP p
  rw [← hZ] at hbld
  have hs : OwnSt w W p := by rw [hW]; exact two_st w p
  have hsz : W.heap.size = N + 1 + 1 := by rw [hW, hN]; simp
  have hza := heap_alloc_new W (.cells (pktA zeroP) 35)
  rw [hsz] at hza
  obtain ⟨W4, hW4⟩ : ∃ W4, W4 = (W.alloc (.cells (pktA zeroP) 35)).setRow (N + 1 + 1) Z := ⟨_, rfl⟩
  have hst : ClnSt w W4 p (selZ p) := by
    rw [hW4]
    refine ⟨(hs.below (ba (br W) _)).kept (kept_setRow _ _ _) (fun k hk => by rw [hk, hN]; omega), ?_⟩
    rw [← hN, ← hZ]
    exact setRow_heap _ _ _ _ _ _ hza
  have HN := Lib.hid hN
  have HSZ := Lib.hid hsz
  have HZ := Lib.hid (And.intro (show Z.size = 22 by rw [hZ]; rfl) (show Z.all (·.oneCell') = true by rw [hZ]; exact oneCell_pktA _))
  have hma : pktA p = #[.int .i64 3, .int .i64 p.frm, .int .i64 p.dst, .int .u64 (p.ce : Int), .int .i64 p.cr, .int .i64 p.m.frm, .int .u32 (p.m.seq : Int), .int .u64 (p.m.stamp : Int), .int .i64 p.m.service, .slice p.m.da p.m.ds.length p.m.dc, .string p.m.pay, .int .u64 (p.stamp : Int), .int .u32 (p.sent : Int), .slice p.ga p.got.length p.gc, .int .u64 (p.hor : Int), .int .i64 p.whom, .int .u32 (p.seq : Int), .int .u64 (p.mem : Int), .int .u64 (p.pe : Int), .int .i64 p.pr, .int .u64 (p.epoch : Int), .slice p.xa p.xs.length p.xc] := by rw [pktA, hkd]
  have hmz : pktA zeroP = #[.int .i64 0, .int .i64 0, .int .i64 0, .int .u64 0, .int .i64 0, .int .i64 0, .int .u32 0, .int .u64 0, .int .i64 0, .slice none 0 0, .string ⟨#[]⟩, .int .u64 0, .int .u32 0, .slice none 0 0, .int .u64 0, .int .i64 0, .int .u32 0, .int .u64 0, .int .u64 0, .int .i64 0, .int .u64 0, .slice none 0 0] := rfl
  have hr := range_of_block hs.a
  rw [← hN] at hr
  have c0 : W.cell? ⟨N, 0, none⟩ = some (.int .i64 3) := by rw [← hkd]; exact hr 0 _ rfl
  have c1 : W.cell? ⟨N, 1, none⟩ = some (.int .i64 p.frm) := hr 1 _ rfl
  have c2 : W.cell? ⟨N, 2, none⟩ = some (.int .i64 p.dst) := hr 2 _ rfl
  obtain ⟨R, hR⟩ : ∃ R, R = Value.agg (pktA (selP p)) := ⟨_, rfl⟩
  rw [← hR]
  rw [hma, hmz] at hW
  rw [hmz] at hW4 hza
  rw [hma]
  rw [hkd] at hbld
  have HBD := Lib.hid (And.intro hbld hza)
  have HQ := Lib.hid hkd
  have HST := Lib.hid hst
  have HR := Lib.hid hR
  clear hmz hma hs hst hsz hr hZ hbld hza hR hkd
  go_enter Try.func17, Try.ntmps17
  go_upto_region 1 with (fail)
  rw [← hW, ← hN]
  clear hW hN
  refine wp_region_lit ?_
  iterate 6
    refine wpList_step (fun K hK => ?_)
    go_simp
    refine hK _ _ ?_
    clear hK K
    (try simp only [Act.put, List.setIfInBounds_toArray, List.set_cons_zero, List.set_cons_succ])
  refine wpList_buildZ rfl 35 #[(0, .tmp 6), (1, .tmp 8), (2, .tmp 10)] rfl Z (by simp only [List.map_toArray, List.map_cons, List.map_nil]; exact HBD.out.1) ?_
  (try simp only [Act.put, List.setIfInBounds_toArray, List.set_cons_zero, List.set_cons_succ])
  iterate 1
    refine wpList_step (fun K hK => ?_)
    go_simp
    refine hK _ _ ?_
    clear hK K
    (try simp only [Act.put, List.setIfInBounds_toArray, List.set_cons_zero, List.set_cons_succ])
  refine wpList_store_row rfl 35 (.tmp 3) (.tmp 11) rfl (N + 1 + 1) Z (by rw [← HSZ.out]; rfl) rfl 35 _ HBD.out.2 (by rw [HZ.out.1]; kernel_rfl) (by rw [HZ.out.1]; rfl) HZ.out.2 ?_
  (try simp only [Act.put, List.setIfInBounds_toArray, List.set_cons_zero, List.set_cons_succ])
  refine wpList_nil ?_
  rw [← hW4, HSZ.out]
  clear hW4 c0 c1 c2 HBD HZ
  have hG : ∀ (x : Int) (W' : World), Calls Try.prog 36 #[.string (rowB 3), .int .u8 x] W' fun e w' => e = .returned (.bool (hasB (rowL 3) x)) ∧ W' = w' := fun x W' => (has_any 3 (by omega) x W').mono fun _ _ h => ⟨h.1, h.2.symm⟩
  have hrow : ∀ W' : World, Calls Try.prog 25 #[.int .i64 3] W' fun e w' => e = .returned (.string (rowB 3)) ∧ Below W'.heap.size W' w' := fun W' => refRow_any 3 (by omega) W'
  have bm : hasB (rowL 3) 109 = false := by decide
  have bs : hasB (rowL 3) 115 = false := by decide
  have bw : hasB (rowL 3) 119 = true := by decide
  have bq : hasB (rowL 3) 113 = true := by decide
  have bp : hasB (rowL 3) 112 = false := by decide
  have bb : hasB (rowL 3) 98 = false := by decide
  have bx : hasB (rowL 3) 120 = false := by decide
  have bl : hasB (rowL 3) 108 = false := by decide
  generalize rowB 3 = r at hG hrow
  generalize hasB (rowL 3) = HB at *
  have HHAS := Lib.hid hG
  have HROW := Lib.hid hrow
  clear hrow hG
  have c0 : W4.cell? ⟨N, 0, none⟩ = some (.int .i64 3) := by rw [← HQ.out]; exact (HST.out.src HN.out) 0 _ rfl
  go_upto_region 4 with (fail)
  go_wp2_with fail
  refine (HROW.out _).mono ?_
  rintro e w5 ⟨rfl, hb5⟩
  have HS5 := Lib.hid (show ClnSt w w5 p (selZ p) from ⟨HST.out.st.below hb5, (hb5.block _ (Array.getElem?_eq_some_iff.1 HST.out.q).1).trans HST.out.q⟩)
  clear hb5 HST c0 HROW
  have c3 : w5.cell? ⟨N, 3, none⟩ = some (.int .u64 (p.ce : Int)) := (HS5.out.src HN.out) 3 _ rfl
  have c4 : w5.cell? ⟨N, 4, none⟩ = some (.int .i64 p.cr) := (HS5.out.src HN.out) 4 _ rfl
  have d3 : w5.cell? ⟨N + 1 + 1, 3, none⟩ = some (.int .u64 0) := (HS5.out.dst HN.out 3).1
  have f3 : w5.frozen? ⟨N + 1 + 1, 3, none⟩ = false := (HS5.out.dst HN.out 3).2
  have d4 : w5.cell? ⟨N + 1 + 1, 4, none⟩ = some (.int .i64 0) := (HS5.out.dst HN.out 4).1
  have f4 : w5.frozen? ⟨N + 1 + 1, 4, none⟩ = false := (HS5.out.dst HN.out 4).2
  obtain ⟨V0, hV⟩ : ∃ V0, V0 = ((w5.setCell ⟨N + 1 + 1, 3, none⟩ (.int .u64 (p.ce : Int))).setCell ⟨N + 1 + 1, 4, none⟩ (.int .i64 p.cr)) := ⟨_, rfl⟩
  have HV0 := Lib.hid (show ClnSt w V0 p (selC p) from by
    rw [hV, HN.out]
    exact (HS5.out.set (r := { selZ p with ce := p.ce }) 3 _ rfl).set 4 _ rfl)
  go_upto_region 6 with ((go_at_call 36; refine (HHAS.out _ _).mono ?_; rintro e w' ⟨rfl, rfl⟩))
  rw [← hV]
  clear hV c3 c4 d3 f3 d4 f4
  have c15 : V0.cell? ⟨N, 15, none⟩ = some (.int .i64 p.whom) := (HV0.out.src HN.out) 15 _ rfl
  have d15 : V0.cell? ⟨N + 1 + 1, 15, none⟩ = some (.int .i64 0) := (HV0.out.dst HN.out 15).1
  have f15 : V0.frozen? ⟨N + 1 + 1, 15, none⟩ = false := (HV0.out.dst HN.out 15).2
  obtain ⟨V1, hV⟩ : ∃ V1, V1 = (V0.setCell ⟨N + 1 + 1, 15, none⟩ (.int .i64 p.whom)) := ⟨_, rfl⟩
  have HV1 := Lib.hid (show ClnSt w V1 p ({ selC p with whom := p.whom }) from by
    rw [hV, HN.out]
    exact HV0.out.set 15 _ rfl)
  go_upto_region 18 with ((go_at_call 36; refine (HHAS.out _ _).mono ?_; rintro e w' ⟨rfl, rfl⟩))
  rw [← hV]
  clear hV c15 d15 f15
  have c16 : V1.cell? ⟨N, 16, none⟩ = some (.int .u32 (p.seq : Int)) := (HV1.out.src HN.out) 16 _ rfl
  have d16 : V1.cell? ⟨N + 1 + 1, 16, none⟩ = some (.int .u32 0) := (HV1.out.dst HN.out 16).1
  have f16 : V1.frozen? ⟨N + 1 + 1, 16, none⟩ = false := (HV1.out.dst HN.out 16).2
  obtain ⟨V2, hV⟩ : ∃ V2, V2 = (V1.setCell ⟨N + 1 + 1, 16, none⟩ (.int .u32 (p.seq : Int))) := ⟨_, rfl⟩
  have HV2 := Lib.hid (show ClnSt w V2 p ({ selC p with whom := p.whom, seq := p.seq }) from by
    rw [hV, HN.out]
    exact HV1.out.set 16 _ rfl)
  go_upto_region 27 with ((go_at_call 36; refine (HHAS.out _ _).mono ?_; rintro e w' ⟨rfl, rfl⟩))
  rw [← hV]
  clear hV c16 d16 f16
  have hq : { selC p with whom := p.whom, seq := p.seq } = selP p := by unfold selP; have := HQ.out; simp [this]
  have hA := (show ClnSt w V2 p (selP p) from by rw [← hq]; exact HV2.out).q
  have hB := (HV2.out : ClnSt w V2 p _).st
  generalize hAA : pktA (selP p) = A at hA HR
  have HA := Lib.hid (And.intro (show V2.heap[N + 1 + 1]? = some (.cells A 35 (0, 0)) by rw [HN.out]; exact hA) (And.intro (show A.size = 22 by rw [← hAA]; rfl) (And.intro (show A.all (·.oneCell') = true by rw [← hAA]; exact oneCell_pktA _) (show V2.heap[N + 1]? = some (.cells (pktA zeroP) 35 (0, 0)) by rw [HN.out]; exact hB.b))))
  have HE := Lib.hid (And.intro HR.out (show Below w.heap.size w (V2.setRow (N + 1) A) from (kept_setRow _ _ _).out hB.bel hB.bel.size (fun k hk' e => by rw [HN.out] at e; omega)))
  clear hA hB hAA hq
  go_wp2_with (first
    | (refine wpList_load_row rfl 35 (.tmp 3) rfl (N + 1 + 1) rfl 35 A (0, 0) _ HA.out.1 Try.underlying35 rfl (by rw [HA.out.2.1]; kernel_rfl) ?_)
    | (refine wpList_store_row rfl 35 (.tmp 2) (.tmp 88) rfl (N + 1) A rfl rfl 35 _ HA.out.2.2.2 (by rw [HA.out.2.1]; kernel_rfl) (by rw [HA.out.2.1]; rfl) HA.out.2.2.1 ?_))
  refine bodyPost_ret (results_cell_row Try.results17 _ _ (N + 1) 35 A (0, 0) _ rfl (setRow_heap _ _ _ _ _ _ HA.out.2.2.2) Try.underlying35 rfl (by rw [HA.out.2.1]; kernel_rfl)) rfl ?_
  exact ⟨by rw [HE.out.1], HE.out.2⟩
set_option maxRecDepth 100000 in
set_option maxHeartbeats 8000000 in
theorem RCln4_any (p : Pkt) (w : World) (hkd : p.kind = 4) : Calls Try.prog 17 #[.agg (pktA p)] w fun e w' => e = .returned (.agg (pktA (selP p))) ∧ Below w.heap.size w w' := by
  obtain ⟨N, hN⟩ : ∃ N, N = w.heap.size := ⟨_, rfl⟩
  obtain ⟨W, hW⟩ : ∃ W, W = (w.alloc (.cells (pktA p) 35)).alloc (.cells (pktA zeroP) 35) := ⟨_, rfl⟩
  obtain ⟨Z, hZ⟩ : ∃ Z, Z = pktA (selZ p) := ⟨_, rfl⟩
  have hbld := bldP p
  rw [← hZ] at hbld
  have hs : OwnSt w W p := by rw [hW]; exact two_st w p
  have hsz : W.heap.size = N + 1 + 1 := by rw [hW, hN]; simp
  have hza := heap_alloc_new W (.cells (pktA zeroP) 35)
  rw [hsz] at hza
  obtain ⟨W4, hW4⟩ : ∃ W4, W4 = (W.alloc (.cells (pktA zeroP) 35)).setRow (N + 1 + 1) Z := ⟨_, rfl⟩
  have hst : ClnSt w W4 p (selZ p) := by
    rw [hW4]
    refine ⟨(hs.below (ba (br W) _)).kept (kept_setRow _ _ _) (fun k hk => by rw [hk, hN]; omega), ?_⟩
    rw [← hN, ← hZ]
    exact setRow_heap _ _ _ _ _ _ hza
  have HN := Lib.hid hN
  have HSZ := Lib.hid hsz
  have HZ := Lib.hid (And.intro (show Z.size = 22 by rw [hZ]; rfl) (show Z.all (·.oneCell') = true by rw [hZ]; exact oneCell_pktA _))
  have hma : pktA p = #[.int .i64 4, .int .i64 p.frm, .int .i64 p.dst, .int .u64 (p.ce : Int), .int .i64 p.cr, .int .i64 p.m.frm, .int .u32 (p.m.seq : Int), .int .u64 (p.m.stamp : Int), .int .i64 p.m.service, .slice p.m.da p.m.ds.length p.m.dc, .string p.m.pay, .int .u64 (p.stamp : Int), .int .u32 (p.sent : Int), .slice p.ga p.got.length p.gc, .int .u64 (p.hor : Int), .int .i64 p.whom, .int .u32 (p.seq : Int), .int .u64 (p.mem : Int), .int .u64 (p.pe : Int), .int .i64 p.pr, .int .u64 (p.epoch : Int), .slice p.xa p.xs.length p.xc] := by rw [pktA, hkd]
  have hmz : pktA zeroP = #[.int .i64 0, .int .i64 0, .int .i64 0, .int .u64 0, .int .i64 0, .int .i64 0, .int .u32 0, .int .u64 0, .int .i64 0, .slice none 0 0, .string ⟨#[]⟩, .int .u64 0, .int .u32 0, .slice none 0 0, .int .u64 0, .int .i64 0, .int .u32 0, .int .u64 0, .int .u64 0, .int .i64 0, .int .u64 0, .slice none 0 0] := rfl
  have hr := range_of_block hs.a
  rw [← hN] at hr
  have c0 : W.cell? ⟨N, 0, none⟩ = some (.int .i64 4) := by rw [← hkd]; exact hr 0 _ rfl
  have c1 : W.cell? ⟨N, 1, none⟩ = some (.int .i64 p.frm) := hr 1 _ rfl
  have c2 : W.cell? ⟨N, 2, none⟩ = some (.int .i64 p.dst) := hr 2 _ rfl
  obtain ⟨R, hR⟩ : ∃ R, R = Value.agg (pktA (selP p)) := ⟨_, rfl⟩
  rw [← hR]
  rw [hma, hmz] at hW
  rw [hmz] at hW4 hza
  rw [hma]
  rw [hkd] at hbld
  have HBD := Lib.hid (And.intro hbld hza)
  have HQ := Lib.hid hkd
  have HST := Lib.hid hst
  have HR := Lib.hid hR
  clear hmz hma hs hst hsz hr hZ hbld hza hR hkd
  go_enter Try.func17, Try.ntmps17
  go_upto_region 1 with (fail)
  rw [← hW, ← hN]
  clear hW hN
  refine wp_region_lit ?_
  iterate 6
    refine wpList_step (fun K hK => ?_)
    go_simp
    refine hK _ _ ?_
    clear hK K
    (try simp only [Act.put, List.setIfInBounds_toArray, List.set_cons_zero, List.set_cons_succ])
  refine wpList_buildZ rfl 35 #[(0, .tmp 6), (1, .tmp 8), (2, .tmp 10)] rfl Z (by simp only [List.map_toArray, List.map_cons, List.map_nil]; exact HBD.out.1) ?_
  (try simp only [Act.put, List.setIfInBounds_toArray, List.set_cons_zero, List.set_cons_succ])
  iterate 1
    refine wpList_step (fun K hK => ?_)
    go_simp
    refine hK _ _ ?_
    clear hK K
    (try simp only [Act.put, List.setIfInBounds_toArray, List.set_cons_zero, List.set_cons_succ])
  refine wpList_store_row rfl 35 (.tmp 3) (.tmp 11) rfl (N + 1 + 1) Z (by rw [← HSZ.out]; rfl) rfl 35 _ HBD.out.2 (by rw [HZ.out.1]; kernel_rfl) (by rw [HZ.out.1]; rfl) HZ.out.2 ?_
  (try simp only [Act.put, List.setIfInBounds_toArray, List.set_cons_zero, List.set_cons_succ])
  refine wpList_nil ?_
  rw [← hW4, HSZ.out]
  clear hW4 c0 c1 c2 HBD HZ
  have hG : ∀ (x : Int) (W' : World), Calls Try.prog 36 #[.string (rowB 4), .int .u8 x] W' fun e w' => e = .returned (.bool (hasB (rowL 4) x)) ∧ W' = w' := fun x W' => (has_any 4 (by omega) x W').mono fun _ _ h => ⟨h.1, h.2.symm⟩
  have hrow : ∀ W' : World, Calls Try.prog 25 #[.int .i64 4] W' fun e w' => e = .returned (.string (rowB 4)) ∧ Below W'.heap.size W' w' := fun W' => refRow_any 4 (by omega) W'
  have bm : hasB (rowL 4) 109 = false := by decide
  have bs : hasB (rowL 4) 115 = false := by decide
  have bw : hasB (rowL 4) 119 = false := by decide
  have bq : hasB (rowL 4) 113 = false := by decide
  have bp : hasB (rowL 4) 112 = true := by decide
  have bb : hasB (rowL 4) 98 = true := by decide
  have bx : hasB (rowL 4) 120 = false := by decide
  have bl : hasB (rowL 4) 108 = false := by decide
  generalize rowB 4 = r at hG hrow
  generalize hasB (rowL 4) = HB at *
  have HHAS := Lib.hid hG
  have HROW := Lib.hid hrow
  clear hrow hG
  have c0 : W4.cell? ⟨N, 0, none⟩ = some (.int .i64 4) := by rw [← HQ.out]; exact (HST.out.src HN.out) 0 _ rfl
  go_upto_region 4 with (fail)
  go_wp2_with fail
  refine (HROW.out _).mono ?_
  rintro e w5 ⟨rfl, hb5⟩
  have HS5 := Lib.hid (show ClnSt w w5 p (selZ p) from ⟨HST.out.st.below hb5, (hb5.block _ (Array.getElem?_eq_some_iff.1 HST.out.q).1).trans HST.out.q⟩)
  clear hb5 HST c0 HROW
  have c3 : w5.cell? ⟨N, 3, none⟩ = some (.int .u64 (p.ce : Int)) := (HS5.out.src HN.out) 3 _ rfl
  have c4 : w5.cell? ⟨N, 4, none⟩ = some (.int .i64 p.cr) := (HS5.out.src HN.out) 4 _ rfl
  have d3 : w5.cell? ⟨N + 1 + 1, 3, none⟩ = some (.int .u64 0) := (HS5.out.dst HN.out 3).1
  have f3 : w5.frozen? ⟨N + 1 + 1, 3, none⟩ = false := (HS5.out.dst HN.out 3).2
  have d4 : w5.cell? ⟨N + 1 + 1, 4, none⟩ = some (.int .i64 0) := (HS5.out.dst HN.out 4).1
  have f4 : w5.frozen? ⟨N + 1 + 1, 4, none⟩ = false := (HS5.out.dst HN.out 4).2
  obtain ⟨V0, hV⟩ : ∃ V0, V0 = ((w5.setCell ⟨N + 1 + 1, 3, none⟩ (.int .u64 (p.ce : Int))).setCell ⟨N + 1 + 1, 4, none⟩ (.int .i64 p.cr)) := ⟨_, rfl⟩
  have HV0 := Lib.hid (show ClnSt w V0 p (selC p) from by
    rw [hV, HN.out]
    exact (HS5.out.set (r := { selZ p with ce := p.ce }) 3 _ rfl).set 4 _ rfl)
  go_upto_region 6 with ((go_at_call 36; refine (HHAS.out _ _).mono ?_; rintro e w' ⟨rfl, rfl⟩))
  rw [← hV]
  clear hV c3 c4 d3 f3 d4 f4
  have c18 : V0.cell? ⟨N, 18, none⟩ = some (.int .u64 (p.pe : Int)) := (HV0.out.src HN.out) 18 _ rfl
  have c19 : V0.cell? ⟨N, 19, none⟩ = some (.int .i64 p.pr) := (HV0.out.src HN.out) 19 _ rfl
  have d18 : V0.cell? ⟨N + 1 + 1, 18, none⟩ = some (.int .u64 0) := (HV0.out.dst HN.out 18).1
  have f18 : V0.frozen? ⟨N + 1 + 1, 18, none⟩ = false := (HV0.out.dst HN.out 18).2
  have d19 : V0.cell? ⟨N + 1 + 1, 19, none⟩ = some (.int .i64 0) := (HV0.out.dst HN.out 19).1
  have f19 : V0.frozen? ⟨N + 1 + 1, 19, none⟩ = false := (HV0.out.dst HN.out 19).2
  obtain ⟨V1, hV⟩ : ∃ V1, V1 = ((V0.setCell ⟨N + 1 + 1, 18, none⟩ (.int .u64 (p.pe : Int))).setCell ⟨N + 1 + 1, 19, none⟩ (.int .i64 p.pr)) := ⟨_, rfl⟩
  have HV1 := Lib.hid (show ClnSt w V1 p ({ selC p with pe := p.pe, pr := p.pr }) from by
    rw [hV, HN.out]
    exact (HV0.out.set (r := { selC p with pe := p.pe }) 18 _ rfl).set 19 _ rfl)
  go_upto_region 22 with ((go_at_call 36; refine (HHAS.out _ _).mono ?_; rintro e w' ⟨rfl, rfl⟩))
  rw [← hV]
  clear hV c18 c19 d18 f18 d19 f19
  have c20 : V1.cell? ⟨N, 20, none⟩ = some (.int .u64 (p.epoch : Int)) := (HV1.out.src HN.out) 20 _ rfl
  have d20 : V1.cell? ⟨N + 1 + 1, 20, none⟩ = some (.int .u64 0) := (HV1.out.dst HN.out 20).1
  have f20 : V1.frozen? ⟨N + 1 + 1, 20, none⟩ = false := (HV1.out.dst HN.out 20).2
  obtain ⟨V2, hV⟩ : ∃ V2, V2 = (V1.setCell ⟨N + 1 + 1, 20, none⟩ (.int .u64 (p.epoch : Int))) := ⟨_, rfl⟩
  have HV2 := Lib.hid (show ClnSt w V2 p ({ selC p with pe := p.pe, pr := p.pr, epoch := p.epoch }) from by
    rw [hV, HN.out]
    exact HV1.out.set 20 _ rfl)
  go_upto_region 23 with ((go_at_call 36; refine (HHAS.out _ _).mono ?_; rintro e w' ⟨rfl, rfl⟩))
  rw [← hV]
  clear hV c20 d20 f20
  have c17 : V2.cell? ⟨N, 17, none⟩ = some (.int .u64 (p.mem : Int)) := (HV2.out.src HN.out) 17 _ rfl
  have d17 : V2.cell? ⟨N + 1 + 1, 17, none⟩ = some (.int .u64 0) := (HV2.out.dst HN.out 17).1
  have f17 : V2.frozen? ⟨N + 1 + 1, 17, none⟩ = false := (HV2.out.dst HN.out 17).2
  obtain ⟨V3, hV⟩ : ∃ V3, V3 = (V2.setCell ⟨N + 1 + 1, 17, none⟩ (.int .u64 (p.mem : Int))) := ⟨_, rfl⟩
  have HV3 := Lib.hid (show ClnSt w V3 p ({ selC p with pe := p.pe, pr := p.pr, epoch := p.epoch, mem := p.mem }) from by
    rw [hV, HN.out]
    exact HV2.out.set 17 _ rfl)
  go_upto_region 27 with ((go_at_call 36; refine (HHAS.out _ _).mono ?_; rintro e w' ⟨rfl, rfl⟩))
  rw [← hV]
  clear hV c17 d17 f17
  have hq : { selC p with pe := p.pe, pr := p.pr, epoch := p.epoch, mem := p.mem } = selP p := by unfold selP; have := HQ.out; simp [this]
  have hA := (show ClnSt w V3 p (selP p) from by rw [← hq]; exact HV3.out).q
  have hB := (HV3.out : ClnSt w V3 p _).st
  generalize hAA : pktA (selP p) = A at hA HR
  have HA := Lib.hid (And.intro (show V3.heap[N + 1 + 1]? = some (.cells A 35 (0, 0)) by rw [HN.out]; exact hA) (And.intro (show A.size = 22 by rw [← hAA]; rfl) (And.intro (show A.all (·.oneCell') = true by rw [← hAA]; exact oneCell_pktA _) (show V3.heap[N + 1]? = some (.cells (pktA zeroP) 35 (0, 0)) by rw [HN.out]; exact hB.b))))
  have HE := Lib.hid (And.intro HR.out (show Below w.heap.size w (V3.setRow (N + 1) A) from (kept_setRow _ _ _).out hB.bel hB.bel.size (fun k hk' e => by rw [HN.out] at e; omega)))
  clear hA hB hAA hq
  go_wp2_with (first
    | (refine wpList_load_row rfl 35 (.tmp 3) rfl (N + 1 + 1) rfl 35 A (0, 0) _ HA.out.1 Try.underlying35 rfl (by rw [HA.out.2.1]; kernel_rfl) ?_)
    | (refine wpList_store_row rfl 35 (.tmp 2) (.tmp 88) rfl (N + 1) A rfl rfl 35 _ HA.out.2.2.2 (by rw [HA.out.2.1]; kernel_rfl) (by rw [HA.out.2.1]; rfl) HA.out.2.2.1 ?_))
  refine bodyPost_ret (results_cell_row Try.results17 _ _ (N + 1) 35 A (0, 0) _ rfl (setRow_heap _ _ _ _ _ _ HA.out.2.2.2) Try.underlying35 rfl (by rw [HA.out.2.1]; kernel_rfl)) rfl ?_
  exact ⟨by rw [HE.out.1], HE.out.2⟩
set_option maxRecDepth 100000 in
set_option maxHeartbeats 8000000 in
theorem RCln5_any (p : Pkt) (w : World) (hkd : p.kind = 5) : Calls Try.prog 17 #[.agg (pktA p)] w fun e w' => e = .returned (.agg (pktA (selP p))) ∧ Below w.heap.size w w' := by
  obtain ⟨N, hN⟩ : ∃ N, N = w.heap.size := ⟨_, rfl⟩
  obtain ⟨W, hW⟩ : ∃ W, W = (w.alloc (.cells (pktA p) 35)).alloc (.cells (pktA zeroP) 35) := ⟨_, rfl⟩
  obtain ⟨Z, hZ⟩ : ∃ Z, Z = pktA (selZ p) := ⟨_, rfl⟩
  have hbld := bldP p
  rw [← hZ] at hbld
  have hs : OwnSt w W p := by rw [hW]; exact two_st w p
  have hsz : W.heap.size = N + 1 + 1 := by rw [hW, hN]; simp
  have hza := heap_alloc_new W (.cells (pktA zeroP) 35)
  rw [hsz] at hza
  obtain ⟨W4, hW4⟩ : ∃ W4, W4 = (W.alloc (.cells (pktA zeroP) 35)).setRow (N + 1 + 1) Z := ⟨_, rfl⟩
  have hst : ClnSt w W4 p (selZ p) := by
    rw [hW4]
    refine ⟨(hs.below (ba (br W) _)).kept (kept_setRow _ _ _) (fun k hk => by rw [hk, hN]; omega), ?_⟩
    rw [← hN, ← hZ]
    exact setRow_heap _ _ _ _ _ _ hza
  have HN := Lib.hid hN
  have HSZ := Lib.hid hsz
  have HZ := Lib.hid (And.intro (show Z.size = 22 by rw [hZ]; rfl) (show Z.all (·.oneCell') = true by rw [hZ]; exact oneCell_pktA _))
  have hma : pktA p = #[.int .i64 5, .int .i64 p.frm, .int .i64 p.dst, .int .u64 (p.ce : Int), .int .i64 p.cr, .int .i64 p.m.frm, .int .u32 (p.m.seq : Int), .int .u64 (p.m.stamp : Int), .int .i64 p.m.service, .slice p.m.da p.m.ds.length p.m.dc, .string p.m.pay, .int .u64 (p.stamp : Int), .int .u32 (p.sent : Int), .slice p.ga p.got.length p.gc, .int .u64 (p.hor : Int), .int .i64 p.whom, .int .u32 (p.seq : Int), .int .u64 (p.mem : Int), .int .u64 (p.pe : Int), .int .i64 p.pr, .int .u64 (p.epoch : Int), .slice p.xa p.xs.length p.xc] := by rw [pktA, hkd]
  have hmz : pktA zeroP = #[.int .i64 0, .int .i64 0, .int .i64 0, .int .u64 0, .int .i64 0, .int .i64 0, .int .u32 0, .int .u64 0, .int .i64 0, .slice none 0 0, .string ⟨#[]⟩, .int .u64 0, .int .u32 0, .slice none 0 0, .int .u64 0, .int .i64 0, .int .u32 0, .int .u64 0, .int .u64 0, .int .i64 0, .int .u64 0, .slice none 0 0] := rfl
  have hr := range_of_block hs.a
  rw [← hN] at hr
  have c0 : W.cell? ⟨N, 0, none⟩ = some (.int .i64 5) := by rw [← hkd]; exact hr 0 _ rfl
  have c1 : W.cell? ⟨N, 1, none⟩ = some (.int .i64 p.frm) := hr 1 _ rfl
  have c2 : W.cell? ⟨N, 2, none⟩ = some (.int .i64 p.dst) := hr 2 _ rfl
  obtain ⟨R, hR⟩ : ∃ R, R = Value.agg (pktA (selP p)) := ⟨_, rfl⟩
  rw [← hR]
  rw [hma, hmz] at hW
  rw [hmz] at hW4 hza
  rw [hma]
  rw [hkd] at hbld
  have HBD := Lib.hid (And.intro hbld hza)
  have HQ := Lib.hid hkd
  have HST := Lib.hid hst
  have HR := Lib.hid hR
  clear hmz hma hs hst hsz hr hZ hbld hza hR hkd
  go_enter Try.func17, Try.ntmps17
  go_upto_region 1 with (fail)
  rw [← hW, ← hN]
  clear hW hN
  refine wp_region_lit ?_
  iterate 6
    refine wpList_step (fun K hK => ?_)
    go_simp
    refine hK _ _ ?_
    clear hK K
    (try simp only [Act.put, List.setIfInBounds_toArray, List.set_cons_zero, List.set_cons_succ])
  refine wpList_buildZ rfl 35 #[(0, .tmp 6), (1, .tmp 8), (2, .tmp 10)] rfl Z (by simp only [List.map_toArray, List.map_cons, List.map_nil]; exact HBD.out.1) ?_
  (try simp only [Act.put, List.setIfInBounds_toArray, List.set_cons_zero, List.set_cons_succ])
  iterate 1
    refine wpList_step (fun K hK => ?_)
    go_simp
    refine hK _ _ ?_
    clear hK K
    (try simp only [Act.put, List.setIfInBounds_toArray, List.set_cons_zero, List.set_cons_succ])
  refine wpList_store_row rfl 35 (.tmp 3) (.tmp 11) rfl (N + 1 + 1) Z (by rw [← HSZ.out]; rfl) rfl 35 _ HBD.out.2 (by rw [HZ.out.1]; kernel_rfl) (by rw [HZ.out.1]; rfl) HZ.out.2 ?_
  (try simp only [Act.put, List.setIfInBounds_toArray, List.set_cons_zero, List.set_cons_succ])
  refine wpList_nil ?_
  rw [← hW4, HSZ.out]
  clear hW4 c0 c1 c2 HBD HZ
  have hG : ∀ (x : Int) (W' : World), Calls Try.prog 36 #[.string (rowB 5), .int .u8 x] W' fun e w' => e = .returned (.bool (hasB (rowL 5) x)) ∧ W' = w' := fun x W' => (has_any 5 (by omega) x W').mono fun _ _ h => ⟨h.1, h.2.symm⟩
  have hrow : ∀ W' : World, Calls Try.prog 25 #[.int .i64 5] W' fun e w' => e = .returned (.string (rowB 5)) ∧ Below W'.heap.size W' w' := fun W' => refRow_any 5 (by omega) W'
  have bm : hasB (rowL 5) 109 = false := by decide
  have bs : hasB (rowL 5) 115 = false := by decide
  have bw : hasB (rowL 5) 119 = false := by decide
  have bq : hasB (rowL 5) 113 = false := by decide
  have bp : hasB (rowL 5) 112 = false := by decide
  have bb : hasB (rowL 5) 98 = true := by decide
  have bx : hasB (rowL 5) 120 = false := by decide
  have bl : hasB (rowL 5) 108 = false := by decide
  generalize rowB 5 = r at hG hrow
  generalize hasB (rowL 5) = HB at *
  have HHAS := Lib.hid hG
  have HROW := Lib.hid hrow
  clear hrow hG
  have c0 : W4.cell? ⟨N, 0, none⟩ = some (.int .i64 5) := by rw [← HQ.out]; exact (HST.out.src HN.out) 0 _ rfl
  go_upto_region 4 with (fail)
  go_wp2_with fail
  refine (HROW.out _).mono ?_
  rintro e w5 ⟨rfl, hb5⟩
  have HS5 := Lib.hid (show ClnSt w w5 p (selZ p) from ⟨HST.out.st.below hb5, (hb5.block _ (Array.getElem?_eq_some_iff.1 HST.out.q).1).trans HST.out.q⟩)
  clear hb5 HST c0 HROW
  have c3 : w5.cell? ⟨N, 3, none⟩ = some (.int .u64 (p.ce : Int)) := (HS5.out.src HN.out) 3 _ rfl
  have c4 : w5.cell? ⟨N, 4, none⟩ = some (.int .i64 p.cr) := (HS5.out.src HN.out) 4 _ rfl
  have d3 : w5.cell? ⟨N + 1 + 1, 3, none⟩ = some (.int .u64 0) := (HS5.out.dst HN.out 3).1
  have f3 : w5.frozen? ⟨N + 1 + 1, 3, none⟩ = false := (HS5.out.dst HN.out 3).2
  have d4 : w5.cell? ⟨N + 1 + 1, 4, none⟩ = some (.int .i64 0) := (HS5.out.dst HN.out 4).1
  have f4 : w5.frozen? ⟨N + 1 + 1, 4, none⟩ = false := (HS5.out.dst HN.out 4).2
  obtain ⟨V0, hV⟩ : ∃ V0, V0 = ((w5.setCell ⟨N + 1 + 1, 3, none⟩ (.int .u64 (p.ce : Int))).setCell ⟨N + 1 + 1, 4, none⟩ (.int .i64 p.cr)) := ⟨_, rfl⟩
  have HV0 := Lib.hid (show ClnSt w V0 p (selC p) from by
    rw [hV, HN.out]
    exact (HS5.out.set (r := { selZ p with ce := p.ce }) 3 _ rfl).set 4 _ rfl)
  go_upto_region 6 with ((go_at_call 36; refine (HHAS.out _ _).mono ?_; rintro e w' ⟨rfl, rfl⟩))
  rw [← hV]
  clear hV c3 c4 d3 f3 d4 f4
  have c17 : V0.cell? ⟨N, 17, none⟩ = some (.int .u64 (p.mem : Int)) := (HV0.out.src HN.out) 17 _ rfl
  have d17 : V0.cell? ⟨N + 1 + 1, 17, none⟩ = some (.int .u64 0) := (HV0.out.dst HN.out 17).1
  have f17 : V0.frozen? ⟨N + 1 + 1, 17, none⟩ = false := (HV0.out.dst HN.out 17).2
  obtain ⟨V1, hV⟩ : ∃ V1, V1 = (V0.setCell ⟨N + 1 + 1, 17, none⟩ (.int .u64 (p.mem : Int))) := ⟨_, rfl⟩
  have HV1 := Lib.hid (show ClnSt w V1 p ({ selC p with mem := p.mem }) from by
    rw [hV, HN.out]
    exact HV0.out.set 17 _ rfl)
  go_upto_region 27 with ((go_at_call 36; refine (HHAS.out _ _).mono ?_; rintro e w' ⟨rfl, rfl⟩))
  rw [← hV]
  clear hV c17 d17 f17
  have hq : { selC p with mem := p.mem } = selP p := by unfold selP; have := HQ.out; simp [this]
  have hA := (show ClnSt w V1 p (selP p) from by rw [← hq]; exact HV1.out).q
  have hB := (HV1.out : ClnSt w V1 p _).st
  generalize hAA : pktA (selP p) = A at hA HR
  have HA := Lib.hid (And.intro (show V1.heap[N + 1 + 1]? = some (.cells A 35 (0, 0)) by rw [HN.out]; exact hA) (And.intro (show A.size = 22 by rw [← hAA]; rfl) (And.intro (show A.all (·.oneCell') = true by rw [← hAA]; exact oneCell_pktA _) (show V1.heap[N + 1]? = some (.cells (pktA zeroP) 35 (0, 0)) by rw [HN.out]; exact hB.b))))
  have HE := Lib.hid (And.intro HR.out (show Below w.heap.size w (V1.setRow (N + 1) A) from (kept_setRow _ _ _).out hB.bel hB.bel.size (fun k hk' e => by rw [HN.out] at e; omega)))
  clear hA hB hAA hq
  go_wp2_with (first
    | (refine wpList_load_row rfl 35 (.tmp 3) rfl (N + 1 + 1) rfl 35 A (0, 0) _ HA.out.1 Try.underlying35 rfl (by rw [HA.out.2.1]; kernel_rfl) ?_)
    | (refine wpList_store_row rfl 35 (.tmp 2) (.tmp 88) rfl (N + 1) A rfl rfl 35 _ HA.out.2.2.2 (by rw [HA.out.2.1]; kernel_rfl) (by rw [HA.out.2.1]; rfl) HA.out.2.2.1 ?_))
  refine bodyPost_ret (results_cell_row Try.results17 _ _ (N + 1) 35 A (0, 0) _ rfl (setRow_heap _ _ _ _ _ _ HA.out.2.2.2) Try.underlying35 rfl (by rw [HA.out.2.1]; kernel_rfl)) rfl ?_
  exact ⟨by rw [HE.out.1], HE.out.2⟩
set_option maxRecDepth 100000 in
set_option maxHeartbeats 8000000 in
theorem RCln6_any (p : Pkt) (w : World) (hkd : p.kind = 6) : Calls Try.prog 17 #[.agg (pktA p)] w fun e w' => e = .returned (.agg (pktA (selP p))) ∧ Below w.heap.size w w' := by
  obtain ⟨N, hN⟩ : ∃ N, N = w.heap.size := ⟨_, rfl⟩
  obtain ⟨W, hW⟩ : ∃ W, W = (w.alloc (.cells (pktA p) 35)).alloc (.cells (pktA zeroP) 35) := ⟨_, rfl⟩
  obtain ⟨Z, hZ⟩ : ∃ Z, Z = pktA (selZ p) := ⟨_, rfl⟩
  have hbld := bldP p
  rw [← hZ] at hbld
  have hs : OwnSt w W p := by rw [hW]; exact two_st w p
  have hsz : W.heap.size = N + 1 + 1 := by rw [hW, hN]; simp
  have hza := heap_alloc_new W (.cells (pktA zeroP) 35)
  rw [hsz] at hza
  obtain ⟨W4, hW4⟩ : ∃ W4, W4 = (W.alloc (.cells (pktA zeroP) 35)).setRow (N + 1 + 1) Z := ⟨_, rfl⟩
  have hst : ClnSt w W4 p (selZ p) := by
    rw [hW4]
    refine ⟨(hs.below (ba (br W) _)).kept (kept_setRow _ _ _) (fun k hk => by rw [hk, hN]; omega), ?_⟩
    rw [← hN, ← hZ]
    exact setRow_heap _ _ _ _ _ _ hza
  have HN := Lib.hid hN
  have HSZ := Lib.hid hsz
  have HZ := Lib.hid (And.intro (show Z.size = 22 by rw [hZ]; rfl) (show Z.all (·.oneCell') = true by rw [hZ]; exact oneCell_pktA _))
  have hma : pktA p = #[.int .i64 6, .int .i64 p.frm, .int .i64 p.dst, .int .u64 (p.ce : Int), .int .i64 p.cr, .int .i64 p.m.frm, .int .u32 (p.m.seq : Int), .int .u64 (p.m.stamp : Int), .int .i64 p.m.service, .slice p.m.da p.m.ds.length p.m.dc, .string p.m.pay, .int .u64 (p.stamp : Int), .int .u32 (p.sent : Int), .slice p.ga p.got.length p.gc, .int .u64 (p.hor : Int), .int .i64 p.whom, .int .u32 (p.seq : Int), .int .u64 (p.mem : Int), .int .u64 (p.pe : Int), .int .i64 p.pr, .int .u64 (p.epoch : Int), .slice p.xa p.xs.length p.xc] := by rw [pktA, hkd]
  have hmz : pktA zeroP = #[.int .i64 0, .int .i64 0, .int .i64 0, .int .u64 0, .int .i64 0, .int .i64 0, .int .u32 0, .int .u64 0, .int .i64 0, .slice none 0 0, .string ⟨#[]⟩, .int .u64 0, .int .u32 0, .slice none 0 0, .int .u64 0, .int .i64 0, .int .u32 0, .int .u64 0, .int .u64 0, .int .i64 0, .int .u64 0, .slice none 0 0] := rfl
  have hr := range_of_block hs.a
  rw [← hN] at hr
  have c0 : W.cell? ⟨N, 0, none⟩ = some (.int .i64 6) := by rw [← hkd]; exact hr 0 _ rfl
  have c1 : W.cell? ⟨N, 1, none⟩ = some (.int .i64 p.frm) := hr 1 _ rfl
  have c2 : W.cell? ⟨N, 2, none⟩ = some (.int .i64 p.dst) := hr 2 _ rfl
  obtain ⟨R, hR⟩ : ∃ R, R = Value.agg (pktA (selP p)) := ⟨_, rfl⟩
  rw [← hR]
  rw [hma, hmz] at hW
  rw [hmz] at hW4 hza
  rw [hma]
  rw [hkd] at hbld
  have HBD := Lib.hid (And.intro hbld hza)
  have HQ := Lib.hid hkd
  have HST := Lib.hid hst
  have HR := Lib.hid hR
  clear hmz hma hs hst hsz hr hZ hbld hza hR hkd
  go_enter Try.func17, Try.ntmps17
  go_upto_region 1 with (fail)
  rw [← hW, ← hN]
  clear hW hN
  refine wp_region_lit ?_
  iterate 6
    refine wpList_step (fun K hK => ?_)
    go_simp
    refine hK _ _ ?_
    clear hK K
    (try simp only [Act.put, List.setIfInBounds_toArray, List.set_cons_zero, List.set_cons_succ])
  refine wpList_buildZ rfl 35 #[(0, .tmp 6), (1, .tmp 8), (2, .tmp 10)] rfl Z (by simp only [List.map_toArray, List.map_cons, List.map_nil]; exact HBD.out.1) ?_
  (try simp only [Act.put, List.setIfInBounds_toArray, List.set_cons_zero, List.set_cons_succ])
  iterate 1
    refine wpList_step (fun K hK => ?_)
    go_simp
    refine hK _ _ ?_
    clear hK K
    (try simp only [Act.put, List.setIfInBounds_toArray, List.set_cons_zero, List.set_cons_succ])
  refine wpList_store_row rfl 35 (.tmp 3) (.tmp 11) rfl (N + 1 + 1) Z (by rw [← HSZ.out]; rfl) rfl 35 _ HBD.out.2 (by rw [HZ.out.1]; kernel_rfl) (by rw [HZ.out.1]; rfl) HZ.out.2 ?_
  (try simp only [Act.put, List.setIfInBounds_toArray, List.set_cons_zero, List.set_cons_succ])
  refine wpList_nil ?_
  rw [← hW4, HSZ.out]
  clear hW4 c0 c1 c2 HBD HZ
  have hG : ∀ (x : Int) (W' : World), Calls Try.prog 36 #[.string (rowB 6), .int .u8 x] W' fun e w' => e = .returned (.bool (hasB (rowL 6) x)) ∧ W' = w' := fun x W' => (has_any 6 (by omega) x W').mono fun _ _ h => ⟨h.1, h.2.symm⟩
  have hrow : ∀ W' : World, Calls Try.prog 25 #[.int .i64 6] W' fun e w' => e = .returned (.string (rowB 6)) ∧ Below W'.heap.size W' w' := fun W' => refRow_any 6 (by omega) W'
  have bm : hasB (rowL 6) 109 = false := by decide
  have bs : hasB (rowL 6) 115 = false := by decide
  have bw : hasB (rowL 6) 119 = false := by decide
  have bq : hasB (rowL 6) 113 = false := by decide
  have bp : hasB (rowL 6) 112 = false := by decide
  have bb : hasB (rowL 6) 98 = false := by decide
  have bx : hasB (rowL 6) 120 = true := by decide
  have bl : hasB (rowL 6) 108 = false := by decide
  generalize rowB 6 = r at hG hrow
  generalize hasB (rowL 6) = HB at *
  have HHAS := Lib.hid hG
  have HROW := Lib.hid hrow
  clear hrow hG
  have c0 : W4.cell? ⟨N, 0, none⟩ = some (.int .i64 6) := by rw [← HQ.out]; exact (HST.out.src HN.out) 0 _ rfl
  go_upto_region 4 with (fail)
  go_wp2_with fail
  refine (HROW.out _).mono ?_
  rintro e w5 ⟨rfl, hb5⟩
  have HS5 := Lib.hid (show ClnSt w w5 p (selZ p) from ⟨HST.out.st.below hb5, (hb5.block _ (Array.getElem?_eq_some_iff.1 HST.out.q).1).trans HST.out.q⟩)
  clear hb5 HST c0 HROW
  have c3 : w5.cell? ⟨N, 3, none⟩ = some (.int .u64 (p.ce : Int)) := (HS5.out.src HN.out) 3 _ rfl
  have c4 : w5.cell? ⟨N, 4, none⟩ = some (.int .i64 p.cr) := (HS5.out.src HN.out) 4 _ rfl
  have d3 : w5.cell? ⟨N + 1 + 1, 3, none⟩ = some (.int .u64 0) := (HS5.out.dst HN.out 3).1
  have f3 : w5.frozen? ⟨N + 1 + 1, 3, none⟩ = false := (HS5.out.dst HN.out 3).2
  have d4 : w5.cell? ⟨N + 1 + 1, 4, none⟩ = some (.int .i64 0) := (HS5.out.dst HN.out 4).1
  have f4 : w5.frozen? ⟨N + 1 + 1, 4, none⟩ = false := (HS5.out.dst HN.out 4).2
  obtain ⟨V0, hV⟩ : ∃ V0, V0 = ((w5.setCell ⟨N + 1 + 1, 3, none⟩ (.int .u64 (p.ce : Int))).setCell ⟨N + 1 + 1, 4, none⟩ (.int .i64 p.cr)) := ⟨_, rfl⟩
  have HV0 := Lib.hid (show ClnSt w V0 p (selC p) from by
    rw [hV, HN.out]
    exact (HS5.out.set (r := { selZ p with ce := p.ce }) 3 _ rfl).set 4 _ rfl)
  go_upto_region 6 with ((go_at_call 36; refine (HHAS.out _ _).mono ?_; rintro e w' ⟨rfl, rfl⟩))
  rw [← hV]
  clear hV c3 c4 d3 f3 d4 f4
  have c21 : V0.cell? ⟨N, 21, none⟩ = some (.slice p.xa p.xs.length p.xc) := (HV0.out.src HN.out) 21 _ rfl
  have d21 : V0.cell? ⟨N + 1 + 1, 21, none⟩ = some (.slice none 0 0) := (HV0.out.dst HN.out 21).1
  have f21 : V0.frozen? ⟨N + 1 + 1, 21, none⟩ = false := (HV0.out.dst HN.out 21).2
  obtain ⟨V1, hV⟩ : ∃ V1, V1 = (V0.setCell ⟨N + 1 + 1, 21, none⟩ (.slice p.xa p.xs.length p.xc)) := ⟨_, rfl⟩
  have HV1 := Lib.hid (show ClnSt w V1 p ({ selC p with xs := p.xs, xa := p.xa, xc := p.xc }) from by
    rw [hV, HN.out]
    exact HV0.out.set 21 _ rfl)
  go_upto_region 27 with ((go_at_call 36; refine (HHAS.out _ _).mono ?_; rintro e w' ⟨rfl, rfl⟩))
  rw [← hV]
  clear hV c21 d21 f21
  have hq : { selC p with xs := p.xs, xa := p.xa, xc := p.xc } = selP p := by unfold selP; have := HQ.out; simp [this]
  have hA := (show ClnSt w V1 p (selP p) from by rw [← hq]; exact HV1.out).q
  have hB := (HV1.out : ClnSt w V1 p _).st
  generalize hAA : pktA (selP p) = A at hA HR
  have HA := Lib.hid (And.intro (show V1.heap[N + 1 + 1]? = some (.cells A 35 (0, 0)) by rw [HN.out]; exact hA) (And.intro (show A.size = 22 by rw [← hAA]; rfl) (And.intro (show A.all (·.oneCell') = true by rw [← hAA]; exact oneCell_pktA _) (show V1.heap[N + 1]? = some (.cells (pktA zeroP) 35 (0, 0)) by rw [HN.out]; exact hB.b))))
  have HE := Lib.hid (And.intro HR.out (show Below w.heap.size w (V1.setRow (N + 1) A) from (kept_setRow _ _ _).out hB.bel hB.bel.size (fun k hk' e => by rw [HN.out] at e; omega)))
  clear hA hB hAA hq
  go_wp2_with (first
    | (refine wpList_load_row rfl 35 (.tmp 3) rfl (N + 1 + 1) rfl 35 A (0, 0) _ HA.out.1 Try.underlying35 rfl (by rw [HA.out.2.1]; kernel_rfl) ?_)
    | (refine wpList_store_row rfl 35 (.tmp 2) (.tmp 88) rfl (N + 1) A rfl rfl 35 _ HA.out.2.2.2 (by rw [HA.out.2.1]; kernel_rfl) (by rw [HA.out.2.1]; rfl) HA.out.2.2.1 ?_))
  refine bodyPost_ret (results_cell_row Try.results17 _ _ (N + 1) 35 A (0, 0) _ rfl (setRow_heap _ _ _ _ _ _ HA.out.2.2.2) Try.underlying35 rfl (by rw [HA.out.2.1]; kernel_rfl)) rfl ?_
  exact ⟨by rw [HE.out.1], HE.out.2⟩
set_option maxRecDepth 100000 in
set_option maxHeartbeats 8000000 in
theorem RCln7_any (p : Pkt) (w : World) (hkd : p.kind = 7) : Calls Try.prog 17 #[.agg (pktA p)] w fun e w' => e = .returned (.agg (pktA (selP p))) ∧ Below w.heap.size w w' := by
  obtain ⟨N, hN⟩ : ∃ N, N = w.heap.size := ⟨_, rfl⟩
  obtain ⟨W, hW⟩ : ∃ W, W = (w.alloc (.cells (pktA p) 35)).alloc (.cells (pktA zeroP) 35) := ⟨_, rfl⟩
  obtain ⟨Z, hZ⟩ : ∃ Z, Z = pktA (selZ p) := ⟨_, rfl⟩
  have hbld := bldP p
  rw [← hZ] at hbld
  have hs : OwnSt w W p := by rw [hW]; exact two_st w p
  have hsz : W.heap.size = N + 1 + 1 := by rw [hW, hN]; simp
  have hza := heap_alloc_new W (.cells (pktA zeroP) 35)
  rw [hsz] at hza
  obtain ⟨W4, hW4⟩ : ∃ W4, W4 = (W.alloc (.cells (pktA zeroP) 35)).setRow (N + 1 + 1) Z := ⟨_, rfl⟩
  have hst : ClnSt w W4 p (selZ p) := by
    rw [hW4]
    refine ⟨(hs.below (ba (br W) _)).kept (kept_setRow _ _ _) (fun k hk => by rw [hk, hN]; omega), ?_⟩
    rw [← hN, ← hZ]
    exact setRow_heap _ _ _ _ _ _ hza
  have HN := Lib.hid hN
  have HSZ := Lib.hid hsz
  have HZ := Lib.hid (And.intro (show Z.size = 22 by rw [hZ]; rfl) (show Z.all (·.oneCell') = true by rw [hZ]; exact oneCell_pktA _))
  have hma : pktA p = #[.int .i64 7, .int .i64 p.frm, .int .i64 p.dst, .int .u64 (p.ce : Int), .int .i64 p.cr, .int .i64 p.m.frm, .int .u32 (p.m.seq : Int), .int .u64 (p.m.stamp : Int), .int .i64 p.m.service, .slice p.m.da p.m.ds.length p.m.dc, .string p.m.pay, .int .u64 (p.stamp : Int), .int .u32 (p.sent : Int), .slice p.ga p.got.length p.gc, .int .u64 (p.hor : Int), .int .i64 p.whom, .int .u32 (p.seq : Int), .int .u64 (p.mem : Int), .int .u64 (p.pe : Int), .int .i64 p.pr, .int .u64 (p.epoch : Int), .slice p.xa p.xs.length p.xc] := by rw [pktA, hkd]
  have hmz : pktA zeroP = #[.int .i64 0, .int .i64 0, .int .i64 0, .int .u64 0, .int .i64 0, .int .i64 0, .int .u32 0, .int .u64 0, .int .i64 0, .slice none 0 0, .string ⟨#[]⟩, .int .u64 0, .int .u32 0, .slice none 0 0, .int .u64 0, .int .i64 0, .int .u32 0, .int .u64 0, .int .u64 0, .int .i64 0, .int .u64 0, .slice none 0 0] := rfl
  have hr := range_of_block hs.a
  rw [← hN] at hr
  have c0 : W.cell? ⟨N, 0, none⟩ = some (.int .i64 7) := by rw [← hkd]; exact hr 0 _ rfl
  have c1 : W.cell? ⟨N, 1, none⟩ = some (.int .i64 p.frm) := hr 1 _ rfl
  have c2 : W.cell? ⟨N, 2, none⟩ = some (.int .i64 p.dst) := hr 2 _ rfl
  obtain ⟨R, hR⟩ : ∃ R, R = Value.agg (pktA (selP p)) := ⟨_, rfl⟩
  rw [← hR]
  rw [hma, hmz] at hW
  rw [hmz] at hW4 hza
  rw [hma]
  rw [hkd] at hbld
  have HBD := Lib.hid (And.intro hbld hza)
  have HQ := Lib.hid hkd
  have HST := Lib.hid hst
  have HR := Lib.hid hR
  clear hmz hma hs hst hsz hr hZ hbld hza hR hkd
  go_enter Try.func17, Try.ntmps17
  go_upto_region 1 with (fail)
  rw [← hW, ← hN]
  clear hW hN
  refine wp_region_lit ?_
  iterate 6
    refine wpList_step (fun K hK => ?_)
    go_simp
    refine hK _ _ ?_
    clear hK K
    (try simp only [Act.put, List.setIfInBounds_toArray, List.set_cons_zero, List.set_cons_succ])
  refine wpList_buildZ rfl 35 #[(0, .tmp 6), (1, .tmp 8), (2, .tmp 10)] rfl Z (by simp only [List.map_toArray, List.map_cons, List.map_nil]; exact HBD.out.1) ?_
  (try simp only [Act.put, List.setIfInBounds_toArray, List.set_cons_zero, List.set_cons_succ])
  iterate 1
    refine wpList_step (fun K hK => ?_)
    go_simp
    refine hK _ _ ?_
    clear hK K
    (try simp only [Act.put, List.setIfInBounds_toArray, List.set_cons_zero, List.set_cons_succ])
  refine wpList_store_row rfl 35 (.tmp 3) (.tmp 11) rfl (N + 1 + 1) Z (by rw [← HSZ.out]; rfl) rfl 35 _ HBD.out.2 (by rw [HZ.out.1]; kernel_rfl) (by rw [HZ.out.1]; rfl) HZ.out.2 ?_
  (try simp only [Act.put, List.setIfInBounds_toArray, List.set_cons_zero, List.set_cons_succ])
  refine wpList_nil ?_
  rw [← hW4, HSZ.out]
  clear hW4 c0 c1 c2 HBD HZ
  have hG : ∀ (x : Int) (W' : World), Calls Try.prog 36 #[.string (rowB 7), .int .u8 x] W' fun e w' => e = .returned (.bool (hasB (rowL 7) x)) ∧ W' = w' := fun x W' => (has_any 7 (by omega) x W').mono fun _ _ h => ⟨h.1, h.2.symm⟩
  have hrow : ∀ W' : World, Calls Try.prog 25 #[.int .i64 7] W' fun e w' => e = .returned (.string (rowB 7)) ∧ Below W'.heap.size W' w' := fun W' => refRow_any 7 (by omega) W'
  have bm : hasB (rowL 7) 109 = false := by decide
  have bs : hasB (rowL 7) 115 = false := by decide
  have bw : hasB (rowL 7) 119 = false := by decide
  have bq : hasB (rowL 7) 113 = false := by decide
  have bp : hasB (rowL 7) 112 = false := by decide
  have bb : hasB (rowL 7) 98 = true := by decide
  have bx : hasB (rowL 7) 120 = false := by decide
  have bl : hasB (rowL 7) 108 = true := by decide
  generalize rowB 7 = r at hG hrow
  generalize hasB (rowL 7) = HB at *
  have HHAS := Lib.hid hG
  have HROW := Lib.hid hrow
  clear hrow hG
  have c0 : W4.cell? ⟨N, 0, none⟩ = some (.int .i64 7) := by rw [← HQ.out]; exact (HST.out.src HN.out) 0 _ rfl
  go_upto_region 4 with (fail)
  go_wp2_with fail
  refine (HROW.out _).mono ?_
  rintro e w5 ⟨rfl, hb5⟩
  have HS5 := Lib.hid (show ClnSt w w5 p (selZ p) from ⟨HST.out.st.below hb5, (hb5.block _ (Array.getElem?_eq_some_iff.1 HST.out.q).1).trans HST.out.q⟩)
  clear hb5 HST c0 HROW
  have c3 : w5.cell? ⟨N, 3, none⟩ = some (.int .u64 (p.ce : Int)) := (HS5.out.src HN.out) 3 _ rfl
  have c4 : w5.cell? ⟨N, 4, none⟩ = some (.int .i64 p.cr) := (HS5.out.src HN.out) 4 _ rfl
  have d3 : w5.cell? ⟨N + 1 + 1, 3, none⟩ = some (.int .u64 0) := (HS5.out.dst HN.out 3).1
  have f3 : w5.frozen? ⟨N + 1 + 1, 3, none⟩ = false := (HS5.out.dst HN.out 3).2
  have d4 : w5.cell? ⟨N + 1 + 1, 4, none⟩ = some (.int .i64 0) := (HS5.out.dst HN.out 4).1
  have f4 : w5.frozen? ⟨N + 1 + 1, 4, none⟩ = false := (HS5.out.dst HN.out 4).2
  obtain ⟨V0, hV⟩ : ∃ V0, V0 = ((w5.setCell ⟨N + 1 + 1, 3, none⟩ (.int .u64 (p.ce : Int))).setCell ⟨N + 1 + 1, 4, none⟩ (.int .i64 p.cr)) := ⟨_, rfl⟩
  have HV0 := Lib.hid (show ClnSt w V0 p (selC p) from by
    rw [hV, HN.out]
    exact (HS5.out.set (r := { selZ p with ce := p.ce }) 3 _ rfl).set 4 _ rfl)
  go_upto_region 6 with ((go_at_call 36; refine (HHAS.out _ _).mono ?_; rintro e w' ⟨rfl, rfl⟩))
  rw [← hV]
  clear hV c3 c4 d3 f3 d4 f4
  have c17 : V0.cell? ⟨N, 17, none⟩ = some (.int .u64 (p.mem : Int)) := (HV0.out.src HN.out) 17 _ rfl
  have d17 : V0.cell? ⟨N + 1 + 1, 17, none⟩ = some (.int .u64 0) := (HV0.out.dst HN.out 17).1
  have f17 : V0.frozen? ⟨N + 1 + 1, 17, none⟩ = false := (HV0.out.dst HN.out 17).2
  obtain ⟨V1, hV⟩ : ∃ V1, V1 = (V0.setCell ⟨N + 1 + 1, 17, none⟩ (.int .u64 (p.mem : Int))) := ⟨_, rfl⟩
  have HV1 := Lib.hid (show ClnSt w V1 p ({ selC p with mem := p.mem }) from by
    rw [hV, HN.out]
    exact HV0.out.set 17 _ rfl)
  go_upto_region 25 with ((go_at_call 36; refine (HHAS.out _ _).mono ?_; rintro e w' ⟨rfl, rfl⟩))
  rw [← hV]
  clear hV c17 d17 f17
  have c21 : V1.cell? ⟨N, 21, none⟩ = some (.slice p.xa p.xs.length p.xc) := (HV1.out.src HN.out) 21 _ rfl
  have d21 : V1.cell? ⟨N + 1 + 1, 21, none⟩ = some (.slice none 0 0) := (HV1.out.dst HN.out 21).1
  have f21 : V1.frozen? ⟨N + 1 + 1, 21, none⟩ = false := (HV1.out.dst HN.out 21).2
  obtain ⟨V2, hV⟩ : ∃ V2, V2 = (V1.setCell ⟨N + 1 + 1, 21, none⟩ (.slice p.xa p.xs.length p.xc)) := ⟨_, rfl⟩
  have HV2 := Lib.hid (show ClnSt w V2 p ({ selC p with mem := p.mem, xs := p.xs, xa := p.xa, xc := p.xc }) from by
    rw [hV, HN.out]
    exact HV1.out.set 21 _ rfl)
  go_upto_region 27 with ((go_at_call 36; refine (HHAS.out _ _).mono ?_; rintro e w' ⟨rfl, rfl⟩))
  rw [← hV]
  clear hV c21 d21 f21
  have hq : { selC p with mem := p.mem, xs := p.xs, xa := p.xa, xc := p.xc } = selP p := by unfold selP; have := HQ.out; simp [this]
  have hA := (show ClnSt w V2 p (selP p) from by rw [← hq]; exact HV2.out).q
  have hB := (HV2.out : ClnSt w V2 p _).st
  generalize hAA : pktA (selP p) = A at hA HR
  have HA := Lib.hid (And.intro (show V2.heap[N + 1 + 1]? = some (.cells A 35 (0, 0)) by rw [HN.out]; exact hA) (And.intro (show A.size = 22 by rw [← hAA]; rfl) (And.intro (show A.all (·.oneCell') = true by rw [← hAA]; exact oneCell_pktA _) (show V2.heap[N + 1]? = some (.cells (pktA zeroP) 35 (0, 0)) by rw [HN.out]; exact hB.b))))
  have HE := Lib.hid (And.intro HR.out (show Below w.heap.size w (V2.setRow (N + 1) A) from (kept_setRow _ _ _).out hB.bel hB.bel.size (fun k hk' e => by rw [HN.out] at e; omega)))
  clear hA hB hAA hq
  go_wp2_with (first
    | (refine wpList_load_row rfl 35 (.tmp 3) rfl (N + 1 + 1) rfl 35 A (0, 0) _ HA.out.1 Try.underlying35 rfl (by rw [HA.out.2.1]; kernel_rfl) ?_)
    | (refine wpList_store_row rfl 35 (.tmp 2) (.tmp 88) rfl (N + 1) A rfl rfl 35 _ HA.out.2.2.2 (by rw [HA.out.2.1]; kernel_rfl) (by rw [HA.out.2.1]; rfl) HA.out.2.2.1 ?_))
  refine bodyPost_ret (results_cell_row Try.results17 _ _ (N + 1) 35 A (0, 0) _ rfl (setRow_heap _ _ _ _ _ _ HA.out.2.2.2) Try.underlying35 rfl (by rw [HA.out.2.1]; kernel_rfl)) rfl ?_
  exact ⟨by rw [HE.out.1], HE.out.2⟩
set_option maxRecDepth 100000 in
set_option maxHeartbeats 8000000 in
theorem RCln8_any (p : Pkt) (w : World) (hkd : p.kind = 8) : Calls Try.prog 17 #[.agg (pktA p)] w fun e w' => e = .returned (.agg (pktA (selP p))) ∧ Below w.heap.size w w' := by
  obtain ⟨N, hN⟩ : ∃ N, N = w.heap.size := ⟨_, rfl⟩
  obtain ⟨W, hW⟩ : ∃ W, W = (w.alloc (.cells (pktA p) 35)).alloc (.cells (pktA zeroP) 35) := ⟨_, rfl⟩
  obtain ⟨Z, hZ⟩ : ∃ Z, Z = pktA (selZ p) := ⟨_, rfl⟩
  have hbld := bldP p
  rw [← hZ] at hbld
  have hs : OwnSt w W p := by rw [hW]; exact two_st w p
  have hsz : W.heap.size = N + 1 + 1 := by rw [hW, hN]; simp
  have hza := heap_alloc_new W (.cells (pktA zeroP) 35)
  rw [hsz] at hza
  obtain ⟨W4, hW4⟩ : ∃ W4, W4 = (W.alloc (.cells (pktA zeroP) 35)).setRow (N + 1 + 1) Z := ⟨_, rfl⟩
  have hst : ClnSt w W4 p (selZ p) := by
    rw [hW4]
    refine ⟨(hs.below (ba (br W) _)).kept (kept_setRow _ _ _) (fun k hk => by rw [hk, hN]; omega), ?_⟩
    rw [← hN, ← hZ]
    exact setRow_heap _ _ _ _ _ _ hza
  have HN := Lib.hid hN
  have HSZ := Lib.hid hsz
  have HZ := Lib.hid (And.intro (show Z.size = 22 by rw [hZ]; rfl) (show Z.all (·.oneCell') = true by rw [hZ]; exact oneCell_pktA _))
  have hma : pktA p = #[.int .i64 8, .int .i64 p.frm, .int .i64 p.dst, .int .u64 (p.ce : Int), .int .i64 p.cr, .int .i64 p.m.frm, .int .u32 (p.m.seq : Int), .int .u64 (p.m.stamp : Int), .int .i64 p.m.service, .slice p.m.da p.m.ds.length p.m.dc, .string p.m.pay, .int .u64 (p.stamp : Int), .int .u32 (p.sent : Int), .slice p.ga p.got.length p.gc, .int .u64 (p.hor : Int), .int .i64 p.whom, .int .u32 (p.seq : Int), .int .u64 (p.mem : Int), .int .u64 (p.pe : Int), .int .i64 p.pr, .int .u64 (p.epoch : Int), .slice p.xa p.xs.length p.xc] := by rw [pktA, hkd]
  have hmz : pktA zeroP = #[.int .i64 0, .int .i64 0, .int .i64 0, .int .u64 0, .int .i64 0, .int .i64 0, .int .u32 0, .int .u64 0, .int .i64 0, .slice none 0 0, .string ⟨#[]⟩, .int .u64 0, .int .u32 0, .slice none 0 0, .int .u64 0, .int .i64 0, .int .u32 0, .int .u64 0, .int .u64 0, .int .i64 0, .int .u64 0, .slice none 0 0] := rfl
  have hr := range_of_block hs.a
  rw [← hN] at hr
  have c0 : W.cell? ⟨N, 0, none⟩ = some (.int .i64 8) := by rw [← hkd]; exact hr 0 _ rfl
  have c1 : W.cell? ⟨N, 1, none⟩ = some (.int .i64 p.frm) := hr 1 _ rfl
  have c2 : W.cell? ⟨N, 2, none⟩ = some (.int .i64 p.dst) := hr 2 _ rfl
  obtain ⟨R, hR⟩ : ∃ R, R = Value.agg (pktA (selP p)) := ⟨_, rfl⟩
  rw [← hR]
  rw [hma, hmz] at hW
  rw [hmz] at hW4 hza
  rw [hma]
  rw [hkd] at hbld
  have HBD := Lib.hid (And.intro hbld hza)
  have HQ := Lib.hid hkd
  have HST := Lib.hid hst
  have HR := Lib.hid hR
  clear hmz hma hs hst hsz hr hZ hbld hza hR hkd
  go_enter Try.func17, Try.ntmps17
  go_upto_region 1 with (fail)
  rw [← hW, ← hN]
  clear hW hN
  refine wp_region_lit ?_
  iterate 6
    refine wpList_step (fun K hK => ?_)
    go_simp
    refine hK _ _ ?_
    clear hK K
    (try simp only [Act.put, List.setIfInBounds_toArray, List.set_cons_zero, List.set_cons_succ])
  refine wpList_buildZ rfl 35 #[(0, .tmp 6), (1, .tmp 8), (2, .tmp 10)] rfl Z (by simp only [List.map_toArray, List.map_cons, List.map_nil]; exact HBD.out.1) ?_
  (try simp only [Act.put, List.setIfInBounds_toArray, List.set_cons_zero, List.set_cons_succ])
  iterate 1
    refine wpList_step (fun K hK => ?_)
    go_simp
    refine hK _ _ ?_
    clear hK K
    (try simp only [Act.put, List.setIfInBounds_toArray, List.set_cons_zero, List.set_cons_succ])
  refine wpList_store_row rfl 35 (.tmp 3) (.tmp 11) rfl (N + 1 + 1) Z (by rw [← HSZ.out]; rfl) rfl 35 _ HBD.out.2 (by rw [HZ.out.1]; kernel_rfl) (by rw [HZ.out.1]; rfl) HZ.out.2 ?_
  (try simp only [Act.put, List.setIfInBounds_toArray, List.set_cons_zero, List.set_cons_succ])
  refine wpList_nil ?_
  rw [← hW4, HSZ.out]
  clear hW4 c0 c1 c2 HBD HZ
  have hG : ∀ (x : Int) (W' : World), Calls Try.prog 36 #[.string (rowB 8), .int .u8 x] W' fun e w' => e = .returned (.bool (hasB (rowL 8) x)) ∧ W' = w' := fun x W' => (has_any 8 (by omega) x W').mono fun _ _ h => ⟨h.1, h.2.symm⟩
  have hrow : ∀ W' : World, Calls Try.prog 25 #[.int .i64 8] W' fun e w' => e = .returned (.string (rowB 8)) ∧ Below W'.heap.size W' w' := fun W' => refRow_any 8 (by omega) W'
  have bm : hasB (rowL 8) 109 = false := by decide
  have bs : hasB (rowL 8) 115 = false := by decide
  have bw : hasB (rowL 8) 119 = true := by decide
  have bq : hasB (rowL 8) 113 = true := by decide
  have bp : hasB (rowL 8) 112 = false := by decide
  have bb : hasB (rowL 8) 98 = false := by decide
  have bx : hasB (rowL 8) 120 = false := by decide
  have bl : hasB (rowL 8) 108 = false := by decide
  generalize rowB 8 = r at hG hrow
  generalize hasB (rowL 8) = HB at *
  have HHAS := Lib.hid hG
  have HROW := Lib.hid hrow
  clear hrow hG
  have c0 : W4.cell? ⟨N, 0, none⟩ = some (.int .i64 8) := by rw [← HQ.out]; exact (HST.out.src HN.out) 0 _ rfl
  go_upto_region 4 with (fail)
  go_wp2_with fail
  refine (HROW.out _).mono ?_
  rintro e w5 ⟨rfl, hb5⟩
  have HS5 := Lib.hid (show ClnSt w w5 p (selZ p) from ⟨HST.out.st.below hb5, (hb5.block _ (Array.getElem?_eq_some_iff.1 HST.out.q).1).trans HST.out.q⟩)
  clear hb5 HST c0 HROW
  have c3 : w5.cell? ⟨N, 3, none⟩ = some (.int .u64 (p.ce : Int)) := (HS5.out.src HN.out) 3 _ rfl
  have c4 : w5.cell? ⟨N, 4, none⟩ = some (.int .i64 p.cr) := (HS5.out.src HN.out) 4 _ rfl
  have d3 : w5.cell? ⟨N + 1 + 1, 3, none⟩ = some (.int .u64 0) := (HS5.out.dst HN.out 3).1
  have f3 : w5.frozen? ⟨N + 1 + 1, 3, none⟩ = false := (HS5.out.dst HN.out 3).2
  have d4 : w5.cell? ⟨N + 1 + 1, 4, none⟩ = some (.int .i64 0) := (HS5.out.dst HN.out 4).1
  have f4 : w5.frozen? ⟨N + 1 + 1, 4, none⟩ = false := (HS5.out.dst HN.out 4).2
  obtain ⟨V0, hV⟩ : ∃ V0, V0 = ((w5.setCell ⟨N + 1 + 1, 3, none⟩ (.int .u64 (p.ce : Int))).setCell ⟨N + 1 + 1, 4, none⟩ (.int .i64 p.cr)) := ⟨_, rfl⟩
  have HV0 := Lib.hid (show ClnSt w V0 p (selC p) from by
    rw [hV, HN.out]
    exact (HS5.out.set (r := { selZ p with ce := p.ce }) 3 _ rfl).set 4 _ rfl)
  go_upto_region 6 with ((go_at_call 36; refine (HHAS.out _ _).mono ?_; rintro e w' ⟨rfl, rfl⟩))
  rw [← hV]
  clear hV c3 c4 d3 f3 d4 f4
  have c15 : V0.cell? ⟨N, 15, none⟩ = some (.int .i64 p.whom) := (HV0.out.src HN.out) 15 _ rfl
  have d15 : V0.cell? ⟨N + 1 + 1, 15, none⟩ = some (.int .i64 0) := (HV0.out.dst HN.out 15).1
  have f15 : V0.frozen? ⟨N + 1 + 1, 15, none⟩ = false := (HV0.out.dst HN.out 15).2
  obtain ⟨V1, hV⟩ : ∃ V1, V1 = (V0.setCell ⟨N + 1 + 1, 15, none⟩ (.int .i64 p.whom)) := ⟨_, rfl⟩
  have HV1 := Lib.hid (show ClnSt w V1 p ({ selC p with whom := p.whom }) from by
    rw [hV, HN.out]
    exact HV0.out.set 15 _ rfl)
  go_upto_region 18 with ((go_at_call 36; refine (HHAS.out _ _).mono ?_; rintro e w' ⟨rfl, rfl⟩))
  rw [← hV]
  clear hV c15 d15 f15
  have c16 : V1.cell? ⟨N, 16, none⟩ = some (.int .u32 (p.seq : Int)) := (HV1.out.src HN.out) 16 _ rfl
  have d16 : V1.cell? ⟨N + 1 + 1, 16, none⟩ = some (.int .u32 0) := (HV1.out.dst HN.out 16).1
  have f16 : V1.frozen? ⟨N + 1 + 1, 16, none⟩ = false := (HV1.out.dst HN.out 16).2
  obtain ⟨V2, hV⟩ : ∃ V2, V2 = (V1.setCell ⟨N + 1 + 1, 16, none⟩ (.int .u32 (p.seq : Int))) := ⟨_, rfl⟩
  have HV2 := Lib.hid (show ClnSt w V2 p ({ selC p with whom := p.whom, seq := p.seq }) from by
    rw [hV, HN.out]
    exact HV1.out.set 16 _ rfl)
  go_upto_region 27 with ((go_at_call 36; refine (HHAS.out _ _).mono ?_; rintro e w' ⟨rfl, rfl⟩))
  rw [← hV]
  clear hV c16 d16 f16
  have hq : { selC p with whom := p.whom, seq := p.seq } = selP p := by unfold selP; have := HQ.out; simp [this]
  have hA := (show ClnSt w V2 p (selP p) from by rw [← hq]; exact HV2.out).q
  have hB := (HV2.out : ClnSt w V2 p _).st
  generalize hAA : pktA (selP p) = A at hA HR
  have HA := Lib.hid (And.intro (show V2.heap[N + 1 + 1]? = some (.cells A 35 (0, 0)) by rw [HN.out]; exact hA) (And.intro (show A.size = 22 by rw [← hAA]; rfl) (And.intro (show A.all (·.oneCell') = true by rw [← hAA]; exact oneCell_pktA _) (show V2.heap[N + 1]? = some (.cells (pktA zeroP) 35 (0, 0)) by rw [HN.out]; exact hB.b))))
  have HE := Lib.hid (And.intro HR.out (show Below w.heap.size w (V2.setRow (N + 1) A) from (kept_setRow _ _ _).out hB.bel hB.bel.size (fun k hk' e => by rw [HN.out] at e; omega)))
  clear hA hB hAA hq
  go_wp2_with (first
    | (refine wpList_load_row rfl 35 (.tmp 3) rfl (N + 1 + 1) rfl 35 A (0, 0) _ HA.out.1 Try.underlying35 rfl (by rw [HA.out.2.1]; kernel_rfl) ?_)
    | (refine wpList_store_row rfl 35 (.tmp 2) (.tmp 88) rfl (N + 1) A rfl rfl 35 _ HA.out.2.2.2 (by rw [HA.out.2.1]; kernel_rfl) (by rw [HA.out.2.1]; rfl) HA.out.2.2.1 ?_))
  refine bodyPost_ret (results_cell_row Try.results17 _ _ (N + 1) 35 A (0, 0) _ rfl (setRow_heap _ _ _ _ _ _ HA.out.2.2.2) Try.underlying35 rfl (by rw [HA.out.2.1]; kernel_rfl)) rfl ?_
  exact ⟨by rw [HE.out.1], HE.out.2⟩
set_option maxRecDepth 100000 in
set_option maxHeartbeats 8000000 in
theorem RCln9_any (p : Pkt) (w : World) (hkd : p.kind = 9) : Calls Try.prog 17 #[.agg (pktA p)] w fun e w' => e = .returned (.agg (pktA (selP p))) ∧ Below w.heap.size w w' := by
  obtain ⟨N, hN⟩ : ∃ N, N = w.heap.size := ⟨_, rfl⟩
  obtain ⟨W, hW⟩ : ∃ W, W = (w.alloc (.cells (pktA p) 35)).alloc (.cells (pktA zeroP) 35) := ⟨_, rfl⟩
  obtain ⟨Z, hZ⟩ : ∃ Z, Z = pktA (selZ p) := ⟨_, rfl⟩
  have hbld := bldP p
  rw [← hZ] at hbld
  have hs : OwnSt w W p := by rw [hW]; exact two_st w p
  have hsz : W.heap.size = N + 1 + 1 := by rw [hW, hN]; simp
  have hza := heap_alloc_new W (.cells (pktA zeroP) 35)
  rw [hsz] at hza
  obtain ⟨W4, hW4⟩ : ∃ W4, W4 = (W.alloc (.cells (pktA zeroP) 35)).setRow (N + 1 + 1) Z := ⟨_, rfl⟩
  have hst : ClnSt w W4 p (selZ p) := by
    rw [hW4]
    refine ⟨(hs.below (ba (br W) _)).kept (kept_setRow _ _ _) (fun k hk => by rw [hk, hN]; omega), ?_⟩
    rw [← hN, ← hZ]
    exact setRow_heap _ _ _ _ _ _ hza
  have HN := Lib.hid hN
  have HSZ := Lib.hid hsz
  have HZ := Lib.hid (And.intro (show Z.size = 22 by rw [hZ]; rfl) (show Z.all (·.oneCell') = true by rw [hZ]; exact oneCell_pktA _))
  have hma : pktA p = #[.int .i64 9, .int .i64 p.frm, .int .i64 p.dst, .int .u64 (p.ce : Int), .int .i64 p.cr, .int .i64 p.m.frm, .int .u32 (p.m.seq : Int), .int .u64 (p.m.stamp : Int), .int .i64 p.m.service, .slice p.m.da p.m.ds.length p.m.dc, .string p.m.pay, .int .u64 (p.stamp : Int), .int .u32 (p.sent : Int), .slice p.ga p.got.length p.gc, .int .u64 (p.hor : Int), .int .i64 p.whom, .int .u32 (p.seq : Int), .int .u64 (p.mem : Int), .int .u64 (p.pe : Int), .int .i64 p.pr, .int .u64 (p.epoch : Int), .slice p.xa p.xs.length p.xc] := by rw [pktA, hkd]
  have hmz : pktA zeroP = #[.int .i64 0, .int .i64 0, .int .i64 0, .int .u64 0, .int .i64 0, .int .i64 0, .int .u32 0, .int .u64 0, .int .i64 0, .slice none 0 0, .string ⟨#[]⟩, .int .u64 0, .int .u32 0, .slice none 0 0, .int .u64 0, .int .i64 0, .int .u32 0, .int .u64 0, .int .u64 0, .int .i64 0, .int .u64 0, .slice none 0 0] := rfl
  have hr := range_of_block hs.a
  rw [← hN] at hr
  have c0 : W.cell? ⟨N, 0, none⟩ = some (.int .i64 9) := by rw [← hkd]; exact hr 0 _ rfl
  have c1 : W.cell? ⟨N, 1, none⟩ = some (.int .i64 p.frm) := hr 1 _ rfl
  have c2 : W.cell? ⟨N, 2, none⟩ = some (.int .i64 p.dst) := hr 2 _ rfl
  obtain ⟨R, hR⟩ : ∃ R, R = Value.agg (pktA (selP p)) := ⟨_, rfl⟩
  rw [← hR]
  rw [hma, hmz] at hW
  rw [hmz] at hW4 hza
  rw [hma]
  rw [hkd] at hbld
  have HBD := Lib.hid (And.intro hbld hza)
  have HQ := Lib.hid hkd
  have HST := Lib.hid hst
  have HR := Lib.hid hR
  clear hmz hma hs hst hsz hr hZ hbld hza hR hkd
  go_enter Try.func17, Try.ntmps17
  go_upto_region 1 with (fail)
  rw [← hW, ← hN]
  clear hW hN
  refine wp_region_lit ?_
  iterate 6
    refine wpList_step (fun K hK => ?_)
    go_simp
    refine hK _ _ ?_
    clear hK K
    (try simp only [Act.put, List.setIfInBounds_toArray, List.set_cons_zero, List.set_cons_succ])
  refine wpList_buildZ rfl 35 #[(0, .tmp 6), (1, .tmp 8), (2, .tmp 10)] rfl Z (by simp only [List.map_toArray, List.map_cons, List.map_nil]; exact HBD.out.1) ?_
  (try simp only [Act.put, List.setIfInBounds_toArray, List.set_cons_zero, List.set_cons_succ])
  iterate 1
    refine wpList_step (fun K hK => ?_)
    go_simp
    refine hK _ _ ?_
    clear hK K
    (try simp only [Act.put, List.setIfInBounds_toArray, List.set_cons_zero, List.set_cons_succ])
  refine wpList_store_row rfl 35 (.tmp 3) (.tmp 11) rfl (N + 1 + 1) Z (by rw [← HSZ.out]; rfl) rfl 35 _ HBD.out.2 (by rw [HZ.out.1]; kernel_rfl) (by rw [HZ.out.1]; rfl) HZ.out.2 ?_
  (try simp only [Act.put, List.setIfInBounds_toArray, List.set_cons_zero, List.set_cons_succ])
  refine wpList_nil ?_
  rw [← hW4, HSZ.out]
  clear hW4 c0 c1 c2 HBD HZ
  have hG : ∀ (x : Int) (W' : World), Calls Try.prog 36 #[.string (rowB 9), .int .u8 x] W' fun e w' => e = .returned (.bool (hasB (rowL 9) x)) ∧ W' = w' := fun x W' => (has_any 9 (by omega) x W').mono fun _ _ h => ⟨h.1, h.2.symm⟩
  have hrow : ∀ W' : World, Calls Try.prog 25 #[.int .i64 9] W' fun e w' => e = .returned (.string (rowB 9)) ∧ Below W'.heap.size W' w' := fun W' => refRow_any 9 (by omega) W'
  have bm : hasB (rowL 9) 109 = true := by decide
  have bs : hasB (rowL 9) 115 = false := by decide
  have bw : hasB (rowL 9) 119 = true := by decide
  have bq : hasB (rowL 9) 113 = false := by decide
  have bp : hasB (rowL 9) 112 = false := by decide
  have bb : hasB (rowL 9) 98 = false := by decide
  have bx : hasB (rowL 9) 120 = false := by decide
  have bl : hasB (rowL 9) 108 = false := by decide
  generalize rowB 9 = r at hG hrow
  generalize hasB (rowL 9) = HB at *
  have HHAS := Lib.hid hG
  have HROW := Lib.hid hrow
  clear hrow hG
  have c0 : W4.cell? ⟨N, 0, none⟩ = some (.int .i64 9) := by rw [← HQ.out]; exact (HST.out.src HN.out) 0 _ rfl
  go_upto_region 4 with (fail)
  go_wp2_with fail
  refine (HROW.out _).mono ?_
  rintro e w5 ⟨rfl, hb5⟩
  have HS5 := Lib.hid (show ClnSt w w5 p (selZ p) from ⟨HST.out.st.below hb5, (hb5.block _ (Array.getElem?_eq_some_iff.1 HST.out.q).1).trans HST.out.q⟩)
  clear hb5 HST c0 HROW
  have c3 : w5.cell? ⟨N, 3, none⟩ = some (.int .u64 (p.ce : Int)) := (HS5.out.src HN.out) 3 _ rfl
  have c4 : w5.cell? ⟨N, 4, none⟩ = some (.int .i64 p.cr) := (HS5.out.src HN.out) 4 _ rfl
  have d3 : w5.cell? ⟨N + 1 + 1, 3, none⟩ = some (.int .u64 0) := (HS5.out.dst HN.out 3).1
  have f3 : w5.frozen? ⟨N + 1 + 1, 3, none⟩ = false := (HS5.out.dst HN.out 3).2
  have d4 : w5.cell? ⟨N + 1 + 1, 4, none⟩ = some (.int .i64 0) := (HS5.out.dst HN.out 4).1
  have f4 : w5.frozen? ⟨N + 1 + 1, 4, none⟩ = false := (HS5.out.dst HN.out 4).2
  obtain ⟨V0, hV⟩ : ∃ V0, V0 = ((w5.setCell ⟨N + 1 + 1, 3, none⟩ (.int .u64 (p.ce : Int))).setCell ⟨N + 1 + 1, 4, none⟩ (.int .i64 p.cr)) := ⟨_, rfl⟩
  have HV0 := Lib.hid (show ClnSt w V0 p (selC p) from by
    rw [hV, HN.out]
    exact (HS5.out.set (r := { selZ p with ce := p.ce }) 3 _ rfl).set 4 _ rfl)
  go_upto_region 6 with ((go_at_call 36; refine (HHAS.out _ _).mono ?_; rintro e w' ⟨rfl, rfl⟩))
  rw [← hV]
  clear hV c3 c4 d3 f3 d4 f4
  have c5 : V0.cell? ⟨N, 5, none⟩ = some (.int .i64 p.m.frm) := (HV0.out.src HN.out) 5 _ rfl
  have c6 : V0.cell? ⟨N, 6, none⟩ = some (.int .u32 (p.m.seq : Int)) := (HV0.out.src HN.out) 6 _ rfl
  have c7 : V0.cell? ⟨N, 7, none⟩ = some (.int .u64 (p.m.stamp : Int)) := (HV0.out.src HN.out) 7 _ rfl
  have c8 : V0.cell? ⟨N, 8, none⟩ = some (.int .i64 p.m.service) := (HV0.out.src HN.out) 8 _ rfl
  have c9 : V0.cell? ⟨N, 9, none⟩ = some (.slice p.m.da p.m.ds.length p.m.dc) := (HV0.out.src HN.out) 9 _ rfl
  have c10 : V0.cell? ⟨N, 10, none⟩ = some (.string p.m.pay) := (HV0.out.src HN.out) 10 _ rfl
  have d5 : V0.cell? ⟨N + 1 + 1, 5, none⟩ = some (.int .i64 0) := (HV0.out.dst HN.out 5).1
  have f5 : V0.frozen? ⟨N + 1 + 1, 5, none⟩ = false := (HV0.out.dst HN.out 5).2
  have d6 : V0.cell? ⟨N + 1 + 1, 6, none⟩ = some (.int .u32 0) := (HV0.out.dst HN.out 6).1
  have f6 : V0.frozen? ⟨N + 1 + 1, 6, none⟩ = false := (HV0.out.dst HN.out 6).2
  have d7 : V0.cell? ⟨N + 1 + 1, 7, none⟩ = some (.int .u64 0) := (HV0.out.dst HN.out 7).1
  have f7 : V0.frozen? ⟨N + 1 + 1, 7, none⟩ = false := (HV0.out.dst HN.out 7).2
  have d8 : V0.cell? ⟨N + 1 + 1, 8, none⟩ = some (.int .i64 0) := (HV0.out.dst HN.out 8).1
  have f8 : V0.frozen? ⟨N + 1 + 1, 8, none⟩ = false := (HV0.out.dst HN.out 8).2
  have d9 : V0.cell? ⟨N + 1 + 1, 9, none⟩ = some (.slice none 0 0) := (HV0.out.dst HN.out 9).1
  have f9 : V0.frozen? ⟨N + 1 + 1, 9, none⟩ = false := (HV0.out.dst HN.out 9).2
  have d10 : V0.cell? ⟨N + 1 + 1, 10, none⟩ = some (.string ⟨#[]⟩) := (HV0.out.dst HN.out 10).1
  have f10 : V0.frozen? ⟨N + 1 + 1, 10, none⟩ = false := (HV0.out.dst HN.out 10).2
  obtain ⟨V1, hV⟩ : ∃ V1, V1 = ((((((V0.setCell ⟨N + 1 + 1, 5, none⟩ (.int .i64 p.m.frm)).setCell ⟨N + 1 + 1, 6, none⟩ (.int .u32 (p.m.seq : Int))).setCell ⟨N + 1 + 1, 7, none⟩ (.int .u64 (p.m.stamp : Int))).setCell ⟨N + 1 + 1, 8, none⟩ (.int .i64 p.m.service)).setCell ⟨N + 1 + 1, 9, none⟩ (.slice p.m.da p.m.ds.length p.m.dc)).setCell ⟨N + 1 + 1, 10, none⟩ (.string p.m.pay)) := ⟨_, rfl⟩
  have HV1 := Lib.hid (show ClnSt w V1 p ({ selC p with m := p.m }) from by
    rw [hV, HN.out]
    exact ((((((HV0.out).set (r := { selC p with m := { (selC p : Pkt).m with frm := p.m.frm } }) 5 _ rfl).set (r := { selC p with m := { (selC p : Pkt).m with frm := p.m.frm, seq := p.m.seq } }) 6 _ rfl).set (r := { selC p with m := { (selC p : Pkt).m with frm := p.m.frm, seq := p.m.seq, stamp := p.m.stamp } }) 7 _ rfl).set (r := { selC p with m := { (selC p : Pkt).m with frm := p.m.frm, seq := p.m.seq, stamp := p.m.stamp, service := p.m.service } }) 8 _ rfl).set (r := { selC p with m := { (selC p : Pkt).m with frm := p.m.frm, seq := p.m.seq, stamp := p.m.stamp, service := p.m.service, ds := p.m.ds, da := p.m.da, dc := p.m.dc } }) 9 _ rfl).set (r := { selC p with m := p.m }) 10 _ rfl)
  go_upto_region 8 with ((go_at_call 36; refine (HHAS.out _ _).mono ?_; rintro e w' ⟨rfl, rfl⟩))
  rw [← hV]
  clear hV c5 c6 c7 c8 c9 c10 d5 f5 d6 f6 d7 f7 d8 f8 d9 f9 d10 f10
  have c1 : V1.cell? ⟨N, 1, none⟩ = some (.int .i64 p.frm) := (HV1.out.src HN.out) 1 _ rfl
  have d5 : V1.cell? ⟨N + 1 + 1, 5, none⟩ = some (.int .i64 p.m.frm) := (HV1.out.dst HN.out 5).1
  have f5 : V1.frozen? ⟨N + 1 + 1, 5, none⟩ = false := (HV1.out.dst HN.out 5).2
  obtain ⟨V2, hV⟩ : ∃ V2, V2 = (V1.setCell ⟨N + 1 + 1, 5, none⟩ (.int .i64 p.frm)) := ⟨_, rfl⟩
  have HV2 := Lib.hid (show ClnSt w V2 p ({ selC p with m := { p.m with frm := p.frm } }) from by
    rw [hV, HN.out]
    exact HV1.out.set 5 _ rfl)
  go_upto_region 14 with ((go_at_call 36; refine (HHAS.out _ _).mono ?_; rintro e w' ⟨rfl, rfl⟩))
  rw [← hV]
  clear hV c1 d5 f5
  have c15 : V2.cell? ⟨N, 15, none⟩ = some (.int .i64 p.whom) := (HV2.out.src HN.out) 15 _ rfl
  have d15 : V2.cell? ⟨N + 1 + 1, 15, none⟩ = some (.int .i64 0) := (HV2.out.dst HN.out 15).1
  have f15 : V2.frozen? ⟨N + 1 + 1, 15, none⟩ = false := (HV2.out.dst HN.out 15).2
  obtain ⟨V3, hV⟩ : ∃ V3, V3 = (V2.setCell ⟨N + 1 + 1, 15, none⟩ (.int .i64 p.whom)) := ⟨_, rfl⟩
  have HV3 := Lib.hid (show ClnSt w V3 p ({ selC p with whom := p.whom, m := { p.m with frm := p.frm } }) from by
    rw [hV, HN.out]
    exact HV2.out.set 15 _ rfl)
  go_upto_region 16 with ((go_at_call 36; refine (HHAS.out _ _).mono ?_; rintro e w' ⟨rfl, rfl⟩))
  rw [← hV]
  clear hV c15 d15 f15
  have c15 : V3.cell? ⟨N, 15, none⟩ = some (.int .i64 p.whom) := (HV3.out.src HN.out) 15 _ rfl
  have d5 : V3.cell? ⟨N + 1 + 1, 5, none⟩ = some (.int .i64 p.frm) := (HV3.out.dst HN.out 5).1
  have f5 : V3.frozen? ⟨N + 1 + 1, 5, none⟩ = false := (HV3.out.dst HN.out 5).2
  obtain ⟨V4, hV⟩ : ∃ V4, V4 = (V3.setCell ⟨N + 1 + 1, 5, none⟩ (.int .i64 p.whom)) := ⟨_, rfl⟩
  have HV4 := Lib.hid (show ClnSt w V4 p ({ selC p with whom := p.whom, m := { p.m with frm := p.whom } }) from by
    rw [hV, HN.out]
    exact HV3.out.set 5 _ rfl)
  go_upto_region 27 with ((go_at_call 36; refine (HHAS.out _ _).mono ?_; rintro e w' ⟨rfl, rfl⟩))
  rw [← hV]
  clear hV c15 d5 f5
  have hq : { selC p with whom := p.whom, m := { p.m with frm := p.whom } } = selP p := by unfold selP; have := HQ.out; simp [this]
  have hA := (show ClnSt w V4 p (selP p) from by rw [← hq]; exact HV4.out).q
  have hB := (HV4.out : ClnSt w V4 p _).st
  generalize hAA : pktA (selP p) = A at hA HR
  have HA := Lib.hid (And.intro (show V4.heap[N + 1 + 1]? = some (.cells A 35 (0, 0)) by rw [HN.out]; exact hA) (And.intro (show A.size = 22 by rw [← hAA]; rfl) (And.intro (show A.all (·.oneCell') = true by rw [← hAA]; exact oneCell_pktA _) (show V4.heap[N + 1]? = some (.cells (pktA zeroP) 35 (0, 0)) by rw [HN.out]; exact hB.b))))
  have HE := Lib.hid (And.intro HR.out (show Below w.heap.size w (V4.setRow (N + 1) A) from (kept_setRow _ _ _).out hB.bel hB.bel.size (fun k hk' e => by rw [HN.out] at e; omega)))
  clear hA hB hAA hq
  go_wp2_with (first
    | (refine wpList_load_row rfl 35 (.tmp 3) rfl (N + 1 + 1) rfl 35 A (0, 0) _ HA.out.1 Try.underlying35 rfl (by rw [HA.out.2.1]; kernel_rfl) ?_)
    | (refine wpList_store_row rfl 35 (.tmp 2) (.tmp 88) rfl (N + 1) A rfl rfl 35 _ HA.out.2.2.2 (by rw [HA.out.2.1]; kernel_rfl) (by rw [HA.out.2.1]; rfl) HA.out.2.2.1 ?_))
  refine bodyPost_ret (results_cell_row Try.results17 _ _ (N + 1) 35 A (0, 0) _ rfl (setRow_heap _ _ _ _ _ _ HA.out.2.2.2) Try.underlying35 rfl (by rw [HA.out.2.1]; kernel_rfl)) rfl ?_
  exact ⟨by rw [HE.out.1], HE.out.2⟩
set_option maxRecDepth 100000 in
set_option maxHeartbeats 8000000 in
theorem RCln10_any (p : Pkt) (w : World) (hkd : p.kind = 10) : Calls Try.prog 17 #[.agg (pktA p)] w fun e w' => e = .returned (.agg (pktA (selP p))) ∧ Below w.heap.size w w' := by
  obtain ⟨N, hN⟩ : ∃ N, N = w.heap.size := ⟨_, rfl⟩
  obtain ⟨W, hW⟩ : ∃ W, W = (w.alloc (.cells (pktA p) 35)).alloc (.cells (pktA zeroP) 35) := ⟨_, rfl⟩
  obtain ⟨Z, hZ⟩ : ∃ Z, Z = pktA (selZ p) := ⟨_, rfl⟩
  have hbld := bldP p
  rw [← hZ] at hbld
  have hs : OwnSt w W p := by rw [hW]; exact two_st w p
  have hsz : W.heap.size = N + 1 + 1 := by rw [hW, hN]; simp
  have hza := heap_alloc_new W (.cells (pktA zeroP) 35)
  rw [hsz] at hza
  obtain ⟨W4, hW4⟩ : ∃ W4, W4 = (W.alloc (.cells (pktA zeroP) 35)).setRow (N + 1 + 1) Z := ⟨_, rfl⟩
  have hst : ClnSt w W4 p (selZ p) := by
    rw [hW4]
    refine ⟨(hs.below (ba (br W) _)).kept (kept_setRow _ _ _) (fun k hk => by rw [hk, hN]; omega), ?_⟩
    rw [← hN, ← hZ]
    exact setRow_heap _ _ _ _ _ _ hza
  have HN := Lib.hid hN
  have HSZ := Lib.hid hsz
  have HZ := Lib.hid (And.intro (show Z.size = 22 by rw [hZ]; rfl) (show Z.all (·.oneCell') = true by rw [hZ]; exact oneCell_pktA _))
  have hma : pktA p = #[.int .i64 10, .int .i64 p.frm, .int .i64 p.dst, .int .u64 (p.ce : Int), .int .i64 p.cr, .int .i64 p.m.frm, .int .u32 (p.m.seq : Int), .int .u64 (p.m.stamp : Int), .int .i64 p.m.service, .slice p.m.da p.m.ds.length p.m.dc, .string p.m.pay, .int .u64 (p.stamp : Int), .int .u32 (p.sent : Int), .slice p.ga p.got.length p.gc, .int .u64 (p.hor : Int), .int .i64 p.whom, .int .u32 (p.seq : Int), .int .u64 (p.mem : Int), .int .u64 (p.pe : Int), .int .i64 p.pr, .int .u64 (p.epoch : Int), .slice p.xa p.xs.length p.xc] := by rw [pktA, hkd]
  have hmz : pktA zeroP = #[.int .i64 0, .int .i64 0, .int .i64 0, .int .u64 0, .int .i64 0, .int .i64 0, .int .u32 0, .int .u64 0, .int .i64 0, .slice none 0 0, .string ⟨#[]⟩, .int .u64 0, .int .u32 0, .slice none 0 0, .int .u64 0, .int .i64 0, .int .u32 0, .int .u64 0, .int .u64 0, .int .i64 0, .int .u64 0, .slice none 0 0] := rfl
  have hr := range_of_block hs.a
  rw [← hN] at hr
  have c0 : W.cell? ⟨N, 0, none⟩ = some (.int .i64 10) := by rw [← hkd]; exact hr 0 _ rfl
  have c1 : W.cell? ⟨N, 1, none⟩ = some (.int .i64 p.frm) := hr 1 _ rfl
  have c2 : W.cell? ⟨N, 2, none⟩ = some (.int .i64 p.dst) := hr 2 _ rfl
  obtain ⟨R, hR⟩ : ∃ R, R = Value.agg (pktA (selP p)) := ⟨_, rfl⟩
  rw [← hR]
  rw [hma, hmz] at hW
  rw [hmz] at hW4 hza
  rw [hma]
  rw [hkd] at hbld
  have HBD := Lib.hid (And.intro hbld hza)
  have HQ := Lib.hid hkd
  have HST := Lib.hid hst
  have HR := Lib.hid hR
  clear hmz hma hs hst hsz hr hZ hbld hza hR hkd
  go_enter Try.func17, Try.ntmps17
  go_upto_region 1 with (fail)
  rw [← hW, ← hN]
  clear hW hN
  refine wp_region_lit ?_
  iterate 6
    refine wpList_step (fun K hK => ?_)
    go_simp
    refine hK _ _ ?_
    clear hK K
    (try simp only [Act.put, List.setIfInBounds_toArray, List.set_cons_zero, List.set_cons_succ])
  refine wpList_buildZ rfl 35 #[(0, .tmp 6), (1, .tmp 8), (2, .tmp 10)] rfl Z (by simp only [List.map_toArray, List.map_cons, List.map_nil]; exact HBD.out.1) ?_
  (try simp only [Act.put, List.setIfInBounds_toArray, List.set_cons_zero, List.set_cons_succ])
  iterate 1
    refine wpList_step (fun K hK => ?_)
    go_simp
    refine hK _ _ ?_
    clear hK K
    (try simp only [Act.put, List.setIfInBounds_toArray, List.set_cons_zero, List.set_cons_succ])
  refine wpList_store_row rfl 35 (.tmp 3) (.tmp 11) rfl (N + 1 + 1) Z (by rw [← HSZ.out]; rfl) rfl 35 _ HBD.out.2 (by rw [HZ.out.1]; kernel_rfl) (by rw [HZ.out.1]; rfl) HZ.out.2 ?_
  (try simp only [Act.put, List.setIfInBounds_toArray, List.set_cons_zero, List.set_cons_succ])
  refine wpList_nil ?_
  rw [← hW4, HSZ.out]
  clear hW4 c0 c1 c2 HBD HZ
  have hG : ∀ (x : Int) (W' : World), Calls Try.prog 36 #[.string (rowB 10), .int .u8 x] W' fun e w' => e = .returned (.bool (hasB (rowL 10) x)) ∧ W' = w' := fun x W' => (has_any 10 (by omega) x W').mono fun _ _ h => ⟨h.1, h.2.symm⟩
  have hrow : ∀ W' : World, Calls Try.prog 25 #[.int .i64 10] W' fun e w' => e = .returned (.string (rowB 10)) ∧ Below W'.heap.size W' w' := fun W' => refRow_any 10 (by omega) W'
  have bm : hasB (rowL 10) 109 = false := by decide
  have bs : hasB (rowL 10) 115 = false := by decide
  have bw : hasB (rowL 10) 119 = false := by decide
  have bq : hasB (rowL 10) 113 = false := by decide
  have bp : hasB (rowL 10) 112 = false := by decide
  have bb : hasB (rowL 10) 98 = false := by decide
  have bx : hasB (rowL 10) 120 = false := by decide
  have bl : hasB (rowL 10) 108 = false := by decide
  generalize rowB 10 = r at hG hrow
  generalize hasB (rowL 10) = HB at *
  have HHAS := Lib.hid hG
  have HROW := Lib.hid hrow
  clear hrow hG
  have c0 : W4.cell? ⟨N, 0, none⟩ = some (.int .i64 10) := by rw [← HQ.out]; exact (HST.out.src HN.out) 0 _ rfl
  go_upto_region 4 with (fail)
  go_wp2_with fail
  refine (HROW.out _).mono ?_
  rintro e w5 ⟨rfl, hb5⟩
  have HS5 := Lib.hid (show ClnSt w w5 p (selZ p) from ⟨HST.out.st.below hb5, (hb5.block _ (Array.getElem?_eq_some_iff.1 HST.out.q).1).trans HST.out.q⟩)
  clear hb5 HST c0 HROW
  have c3 : w5.cell? ⟨N, 3, none⟩ = some (.int .u64 (p.ce : Int)) := (HS5.out.src HN.out) 3 _ rfl
  have c4 : w5.cell? ⟨N, 4, none⟩ = some (.int .i64 p.cr) := (HS5.out.src HN.out) 4 _ rfl
  have d3 : w5.cell? ⟨N + 1 + 1, 3, none⟩ = some (.int .u64 0) := (HS5.out.dst HN.out 3).1
  have f3 : w5.frozen? ⟨N + 1 + 1, 3, none⟩ = false := (HS5.out.dst HN.out 3).2
  have d4 : w5.cell? ⟨N + 1 + 1, 4, none⟩ = some (.int .i64 0) := (HS5.out.dst HN.out 4).1
  have f4 : w5.frozen? ⟨N + 1 + 1, 4, none⟩ = false := (HS5.out.dst HN.out 4).2
  obtain ⟨V0, hV⟩ : ∃ V0, V0 = ((w5.setCell ⟨N + 1 + 1, 3, none⟩ (.int .u64 (p.ce : Int))).setCell ⟨N + 1 + 1, 4, none⟩ (.int .i64 p.cr)) := ⟨_, rfl⟩
  have HV0 := Lib.hid (show ClnSt w V0 p (selC p) from by
    rw [hV, HN.out]
    exact (HS5.out.set (r := { selZ p with ce := p.ce }) 3 _ rfl).set 4 _ rfl)
  go_upto_region 6 with ((go_at_call 36; refine (HHAS.out _ _).mono ?_; rintro e w' ⟨rfl, rfl⟩))
  rw [← hV]
  clear hV c3 c4 d3 f3 d4 f4
  go_upto_region 27 with ((go_at_call 36; refine (HHAS.out _ _).mono ?_; rintro e w' ⟨rfl, rfl⟩))
  have hq : selC p = selP p := by unfold selP; have := HQ.out; simp [this]
  have hA := (show ClnSt w V0 p (selP p) from by rw [← hq]; exact HV0.out).q
  have hB := (HV0.out : ClnSt w V0 p _).st
  generalize hAA : pktA (selP p) = A at hA HR
  have HA := Lib.hid (And.intro (show V0.heap[N + 1 + 1]? = some (.cells A 35 (0, 0)) by rw [HN.out]; exact hA) (And.intro (show A.size = 22 by rw [← hAA]; rfl) (And.intro (show A.all (·.oneCell') = true by rw [← hAA]; exact oneCell_pktA _) (show V0.heap[N + 1]? = some (.cells (pktA zeroP) 35 (0, 0)) by rw [HN.out]; exact hB.b))))
  have HE := Lib.hid (And.intro HR.out (show Below w.heap.size w (V0.setRow (N + 1) A) from (kept_setRow _ _ _).out hB.bel hB.bel.size (fun k hk' e => by rw [HN.out] at e; omega)))
  clear hA hB hAA hq
  go_wp2_with (first
    | (refine wpList_load_row rfl 35 (.tmp 3) rfl (N + 1 + 1) rfl 35 A (0, 0) _ HA.out.1 Try.underlying35 rfl (by rw [HA.out.2.1]; kernel_rfl) ?_)
    | (refine wpList_store_row rfl 35 (.tmp 2) (.tmp 88) rfl (N + 1) A rfl rfl 35 _ HA.out.2.2.2 (by rw [HA.out.2.1]; kernel_rfl) (by rw [HA.out.2.1]; rfl) HA.out.2.2.1 ?_))
  refine bodyPost_ret (results_cell_row Try.results17 _ _ (N + 1) 35 A (0, 0) _ rfl (setRow_heap _ _ _ _ _ _ HA.out.2.2.2) Try.underlying35 rfl (by rw [HA.out.2.1]; kernel_rfl)) rfl ?_
  exact ⟨by rw [HE.out.1], HE.out.2⟩
set_option maxRecDepth 100000 in
set_option maxHeartbeats 8000000 in
theorem RCln11_any (p : Pkt) (w : World) (hkd : p.kind = 11) : Calls Try.prog 17 #[.agg (pktA p)] w fun e w' => e = .returned (.agg (pktA (selP p))) ∧ Below w.heap.size w w' := by
  obtain ⟨N, hN⟩ : ∃ N, N = w.heap.size := ⟨_, rfl⟩
  obtain ⟨W, hW⟩ : ∃ W, W = (w.alloc (.cells (pktA p) 35)).alloc (.cells (pktA zeroP) 35) := ⟨_, rfl⟩
  obtain ⟨Z, hZ⟩ : ∃ Z, Z = pktA (selZ p) := ⟨_, rfl⟩
  have hbld := bldP p
  rw [← hZ] at hbld
  have hs : OwnSt w W p := by rw [hW]; exact two_st w p
  have hsz : W.heap.size = N + 1 + 1 := by rw [hW, hN]; simp
  have hza := heap_alloc_new W (.cells (pktA zeroP) 35)
  rw [hsz] at hza
  obtain ⟨W4, hW4⟩ : ∃ W4, W4 = (W.alloc (.cells (pktA zeroP) 35)).setRow (N + 1 + 1) Z := ⟨_, rfl⟩
  have hst : ClnSt w W4 p (selZ p) := by
    rw [hW4]
    refine ⟨(hs.below (ba (br W) _)).kept (kept_setRow _ _ _) (fun k hk => by rw [hk, hN]; omega), ?_⟩
    rw [← hN, ← hZ]
    exact setRow_heap _ _ _ _ _ _ hza
  have HN := Lib.hid hN
  have HSZ := Lib.hid hsz
  have HZ := Lib.hid (And.intro (show Z.size = 22 by rw [hZ]; rfl) (show Z.all (·.oneCell') = true by rw [hZ]; exact oneCell_pktA _))
  have hma : pktA p = #[.int .i64 11, .int .i64 p.frm, .int .i64 p.dst, .int .u64 (p.ce : Int), .int .i64 p.cr, .int .i64 p.m.frm, .int .u32 (p.m.seq : Int), .int .u64 (p.m.stamp : Int), .int .i64 p.m.service, .slice p.m.da p.m.ds.length p.m.dc, .string p.m.pay, .int .u64 (p.stamp : Int), .int .u32 (p.sent : Int), .slice p.ga p.got.length p.gc, .int .u64 (p.hor : Int), .int .i64 p.whom, .int .u32 (p.seq : Int), .int .u64 (p.mem : Int), .int .u64 (p.pe : Int), .int .i64 p.pr, .int .u64 (p.epoch : Int), .slice p.xa p.xs.length p.xc] := by rw [pktA, hkd]
  have hmz : pktA zeroP = #[.int .i64 0, .int .i64 0, .int .i64 0, .int .u64 0, .int .i64 0, .int .i64 0, .int .u32 0, .int .u64 0, .int .i64 0, .slice none 0 0, .string ⟨#[]⟩, .int .u64 0, .int .u32 0, .slice none 0 0, .int .u64 0, .int .i64 0, .int .u32 0, .int .u64 0, .int .u64 0, .int .i64 0, .int .u64 0, .slice none 0 0] := rfl
  have hr := range_of_block hs.a
  rw [← hN] at hr
  have c0 : W.cell? ⟨N, 0, none⟩ = some (.int .i64 11) := by rw [← hkd]; exact hr 0 _ rfl
  have c1 : W.cell? ⟨N, 1, none⟩ = some (.int .i64 p.frm) := hr 1 _ rfl
  have c2 : W.cell? ⟨N, 2, none⟩ = some (.int .i64 p.dst) := hr 2 _ rfl
  obtain ⟨R, hR⟩ : ∃ R, R = Value.agg (pktA (selP p)) := ⟨_, rfl⟩
  rw [← hR]
  rw [hma, hmz] at hW
  rw [hmz] at hW4 hza
  rw [hma]
  rw [hkd] at hbld
  have HBD := Lib.hid (And.intro hbld hza)
  have HQ := Lib.hid hkd
  have HST := Lib.hid hst
  have HR := Lib.hid hR
  clear hmz hma hs hst hsz hr hZ hbld hza hR hkd
  go_enter Try.func17, Try.ntmps17
  go_upto_region 1 with (fail)
  rw [← hW, ← hN]
  clear hW hN
  refine wp_region_lit ?_
  iterate 6
    refine wpList_step (fun K hK => ?_)
    go_simp
    refine hK _ _ ?_
    clear hK K
    (try simp only [Act.put, List.setIfInBounds_toArray, List.set_cons_zero, List.set_cons_succ])
  refine wpList_buildZ rfl 35 #[(0, .tmp 6), (1, .tmp 8), (2, .tmp 10)] rfl Z (by simp only [List.map_toArray, List.map_cons, List.map_nil]; exact HBD.out.1) ?_
  (try simp only [Act.put, List.setIfInBounds_toArray, List.set_cons_zero, List.set_cons_succ])
  iterate 1
    refine wpList_step (fun K hK => ?_)
    go_simp
    refine hK _ _ ?_
    clear hK K
    (try simp only [Act.put, List.setIfInBounds_toArray, List.set_cons_zero, List.set_cons_succ])
  refine wpList_store_row rfl 35 (.tmp 3) (.tmp 11) rfl (N + 1 + 1) Z (by rw [← HSZ.out]; rfl) rfl 35 _ HBD.out.2 (by rw [HZ.out.1]; kernel_rfl) (by rw [HZ.out.1]; rfl) HZ.out.2 ?_
  (try simp only [Act.put, List.setIfInBounds_toArray, List.set_cons_zero, List.set_cons_succ])
  refine wpList_nil ?_
  rw [← hW4, HSZ.out]
  clear hW4 c0 c1 c2 HBD HZ
  have hG : ∀ (x : Int) (W' : World), Calls Try.prog 36 #[.string (rowB 11), .int .u8 x] W' fun e w' => e = .returned (.bool (hasB (rowL 11) x)) ∧ W' = w' := fun x W' => (has_any 11 (by omega) x W').mono fun _ _ h => ⟨h.1, h.2.symm⟩
  have hrow : ∀ W' : World, Calls Try.prog 25 #[.int .i64 11] W' fun e w' => e = .returned (.string (rowB 11)) ∧ Below W'.heap.size W' w' := fun W' => refRow_any 11 (by omega) W'
  have bm : hasB (rowL 11) 109 = false := by decide
  have bs : hasB (rowL 11) 115 = false := by decide
  have bw : hasB (rowL 11) 119 = false := by decide
  have bq : hasB (rowL 11) 113 = false := by decide
  have bp : hasB (rowL 11) 112 = false := by decide
  have bb : hasB (rowL 11) 98 = false := by decide
  have bx : hasB (rowL 11) 120 = false := by decide
  have bl : hasB (rowL 11) 108 = false := by decide
  generalize rowB 11 = r at hG hrow
  generalize hasB (rowL 11) = HB at *
  have HHAS := Lib.hid hG
  have HROW := Lib.hid hrow
  clear hrow hG
  have c0 : W4.cell? ⟨N, 0, none⟩ = some (.int .i64 11) := by rw [← HQ.out]; exact (HST.out.src HN.out) 0 _ rfl
  go_upto_region 4 with (fail)
  go_wp2_with fail
  refine (HROW.out _).mono ?_
  rintro e w5 ⟨rfl, hb5⟩
  have HS5 := Lib.hid (show ClnSt w w5 p (selZ p) from ⟨HST.out.st.below hb5, (hb5.block _ (Array.getElem?_eq_some_iff.1 HST.out.q).1).trans HST.out.q⟩)
  clear hb5 HST c0 HROW
  have c3 : w5.cell? ⟨N, 3, none⟩ = some (.int .u64 (p.ce : Int)) := (HS5.out.src HN.out) 3 _ rfl
  have c4 : w5.cell? ⟨N, 4, none⟩ = some (.int .i64 p.cr) := (HS5.out.src HN.out) 4 _ rfl
  have d3 : w5.cell? ⟨N + 1 + 1, 3, none⟩ = some (.int .u64 0) := (HS5.out.dst HN.out 3).1
  have f3 : w5.frozen? ⟨N + 1 + 1, 3, none⟩ = false := (HS5.out.dst HN.out 3).2
  have d4 : w5.cell? ⟨N + 1 + 1, 4, none⟩ = some (.int .i64 0) := (HS5.out.dst HN.out 4).1
  have f4 : w5.frozen? ⟨N + 1 + 1, 4, none⟩ = false := (HS5.out.dst HN.out 4).2
  obtain ⟨V0, hV⟩ : ∃ V0, V0 = ((w5.setCell ⟨N + 1 + 1, 3, none⟩ (.int .u64 (p.ce : Int))).setCell ⟨N + 1 + 1, 4, none⟩ (.int .i64 p.cr)) := ⟨_, rfl⟩
  have HV0 := Lib.hid (show ClnSt w V0 p (selC p) from by
    rw [hV, HN.out]
    exact (HS5.out.set (r := { selZ p with ce := p.ce }) 3 _ rfl).set 4 _ rfl)
  go_upto_region 6 with ((go_at_call 36; refine (HHAS.out _ _).mono ?_; rintro e w' ⟨rfl, rfl⟩))
  rw [← hV]
  clear hV c3 c4 d3 f3 d4 f4
  go_upto_region 27 with ((go_at_call 36; refine (HHAS.out _ _).mono ?_; rintro e w' ⟨rfl, rfl⟩))
  have hq : selC p = selP p := by unfold selP; have := HQ.out; simp [this]
  have hA := (show ClnSt w V0 p (selP p) from by rw [← hq]; exact HV0.out).q
  have hB := (HV0.out : ClnSt w V0 p _).st
  generalize hAA : pktA (selP p) = A at hA HR
  have HA := Lib.hid (And.intro (show V0.heap[N + 1 + 1]? = some (.cells A 35 (0, 0)) by rw [HN.out]; exact hA) (And.intro (show A.size = 22 by rw [← hAA]; rfl) (And.intro (show A.all (·.oneCell') = true by rw [← hAA]; exact oneCell_pktA _) (show V0.heap[N + 1]? = some (.cells (pktA zeroP) 35 (0, 0)) by rw [HN.out]; exact hB.b))))
  have HE := Lib.hid (And.intro HR.out (show Below w.heap.size w (V0.setRow (N + 1) A) from (kept_setRow _ _ _).out hB.bel hB.bel.size (fun k hk' e => by rw [HN.out] at e; omega)))
  clear hA hB hAA hq
  go_wp2_with (first
    | (refine wpList_load_row rfl 35 (.tmp 3) rfl (N + 1 + 1) rfl 35 A (0, 0) _ HA.out.1 Try.underlying35 rfl (by rw [HA.out.2.1]; kernel_rfl) ?_)
    | (refine wpList_store_row rfl 35 (.tmp 2) (.tmp 88) rfl (N + 1) A rfl rfl 35 _ HA.out.2.2.2 (by rw [HA.out.2.1]; kernel_rfl) (by rw [HA.out.2.1]; rfl) HA.out.2.2.1 ?_))
  refine bodyPost_ret (results_cell_row Try.results17 _ _ (N + 1) 35 A (0, 0) _ rfl (setRow_heap _ _ _ _ _ _ HA.out.2.2.2) Try.underlying35 rfl (by rw [HA.out.2.1]; kernel_rfl)) rfl ?_
  exact ⟨by rw [HE.out.1], HE.out.2⟩
set_option maxRecDepth 100000 in
set_option maxHeartbeats 8000000 in
theorem RClnO_any (p : Pkt) (w : World) (hkd : p.kind < 1 ∨ 11 < p.kind) : Calls Try.prog 17 #[.agg (pktA p)] w fun e w' => e = .returned (.agg (pktA (selP p))) ∧ Below w.heap.size w w' := by
  obtain ⟨N, hN⟩ : ∃ N, N = w.heap.size := ⟨_, rfl⟩
  obtain ⟨W, hW⟩ : ∃ W, W = (w.alloc (.cells (pktA p) 35)).alloc (.cells (pktA zeroP) 35) := ⟨_, rfl⟩
  obtain ⟨Z, hZ⟩ : ∃ Z, Z = pktA (selZ p) := ⟨_, rfl⟩
  have hbld := bldP p
  rw [← hZ] at hbld
  have hs : OwnSt w W p := by rw [hW]; exact two_st w p
  have hsz : W.heap.size = N + 1 + 1 := by rw [hW, hN]; simp
  have hza := heap_alloc_new W (.cells (pktA zeroP) 35)
  rw [hsz] at hza
  obtain ⟨W4, hW4⟩ : ∃ W4, W4 = (W.alloc (.cells (pktA zeroP) 35)).setRow (N + 1 + 1) Z := ⟨_, rfl⟩
  have hst : ClnSt w W4 p (selZ p) := by
    rw [hW4]
    refine ⟨(hs.below (ba (br W) _)).kept (kept_setRow _ _ _) (fun k hk => by rw [hk, hN]; omega), ?_⟩
    rw [← hN, ← hZ]
    exact setRow_heap _ _ _ _ _ _ hza
  have HN := Lib.hid hN
  have HSZ := Lib.hid hsz
  have HZ := Lib.hid (And.intro (show Z.size = 22 by rw [hZ]; rfl) (show Z.all (·.oneCell') = true by rw [hZ]; exact oneCell_pktA _))
  have hma : pktA p = #[.int .i64 p.kind, .int .i64 p.frm, .int .i64 p.dst, .int .u64 (p.ce : Int), .int .i64 p.cr, .int .i64 p.m.frm, .int .u32 (p.m.seq : Int), .int .u64 (p.m.stamp : Int), .int .i64 p.m.service, .slice p.m.da p.m.ds.length p.m.dc, .string p.m.pay, .int .u64 (p.stamp : Int), .int .u32 (p.sent : Int), .slice p.ga p.got.length p.gc, .int .u64 (p.hor : Int), .int .i64 p.whom, .int .u32 (p.seq : Int), .int .u64 (p.mem : Int), .int .u64 (p.pe : Int), .int .i64 p.pr, .int .u64 (p.epoch : Int), .slice p.xa p.xs.length p.xc] := by rfl
  have hmz : pktA zeroP = #[.int .i64 0, .int .i64 0, .int .i64 0, .int .u64 0, .int .i64 0, .int .i64 0, .int .u32 0, .int .u64 0, .int .i64 0, .slice none 0 0, .string ⟨#[]⟩, .int .u64 0, .int .u32 0, .slice none 0 0, .int .u64 0, .int .i64 0, .int .u32 0, .int .u64 0, .int .u64 0, .int .i64 0, .int .u64 0, .slice none 0 0] := rfl
  have hr := range_of_block hs.a
  rw [← hN] at hr
  have c0 : W.cell? ⟨N, 0, none⟩ = some (.int .i64 p.kind) := by exact hr 0 _ rfl
  have c1 : W.cell? ⟨N, 1, none⟩ = some (.int .i64 p.frm) := hr 1 _ rfl
  have c2 : W.cell? ⟨N, 2, none⟩ = some (.int .i64 p.dst) := hr 2 _ rfl
  obtain ⟨R, hR⟩ : ∃ R, R = Value.agg (pktA (selP p)) := ⟨_, rfl⟩
  rw [← hR]
  rw [hma, hmz] at hW
  rw [hmz] at hW4 hza
  rw [hma]
  
  have HBD := Lib.hid (And.intro hbld hza)
  have HQ := Lib.hid hkd
  have HST := Lib.hid hst
  have HR := Lib.hid hR
  clear hmz hma hs hst hsz hr hZ hbld hza hR 
  go_enter Try.func17, Try.ntmps17
  go_upto_region 1 with (fail)
  rw [← hW, ← hN]
  clear hW hN
  refine wp_region_lit ?_
  iterate 6
    refine wpList_step (fun K hK => ?_)
    go_simp
    refine hK _ _ ?_
    clear hK K
    (try simp only [Act.put, List.setIfInBounds_toArray, List.set_cons_zero, List.set_cons_succ])
  refine wpList_buildZ rfl 35 #[(0, .tmp 6), (1, .tmp 8), (2, .tmp 10)] rfl Z (by simp only [List.map_toArray, List.map_cons, List.map_nil]; exact HBD.out.1) ?_
  (try simp only [Act.put, List.setIfInBounds_toArray, List.set_cons_zero, List.set_cons_succ])
  iterate 1
    refine wpList_step (fun K hK => ?_)
    go_simp
    refine hK _ _ ?_
    clear hK K
    (try simp only [Act.put, List.setIfInBounds_toArray, List.set_cons_zero, List.set_cons_succ])
  refine wpList_store_row rfl 35 (.tmp 3) (.tmp 11) rfl (N + 1 + 1) Z (by rw [← HSZ.out]; rfl) rfl 35 _ HBD.out.2 (by rw [HZ.out.1]; kernel_rfl) (by rw [HZ.out.1]; rfl) HZ.out.2 ?_
  (try simp only [Act.put, List.setIfInBounds_toArray, List.set_cons_zero, List.set_cons_succ])
  refine wpList_nil ?_
  rw [← hW4, HSZ.out]
  clear hW4 c0 c1 c2 HBD HZ
  have c0 : W4.cell? ⟨N, 0, none⟩ = some (.int .i64 p.kind) := (HST.out.src HN.out) 0 _ rfl
  by_cases h1 : p.kind < 1
  · have d1 : decide (p.kind < 1) = true := by simpa using h1
    go_upto_region 3 with (fail)
    clear c0 h1 d1
    have hq : selZ p = selP p := by unfold selP; have := HQ.out; simp [this]
    have hA := (show ClnSt w W4 p (selP p) from by rw [← hq]; exact HST.out).q
    have hB := (HST.out : ClnSt w W4 p _).st
    generalize hAA : pktA (selP p) = A at hA HR
    have HA := Lib.hid (And.intro (show W4.heap[N + 1 + 1]? = some (.cells A 35 (0, 0)) by rw [HN.out]; exact hA) (And.intro (show A.size = 22 by rw [← hAA]; rfl) (And.intro (show A.all (·.oneCell') = true by rw [← hAA]; exact oneCell_pktA _) (show W4.heap[N + 1]? = some (.cells (pktA zeroP) 35 (0, 0)) by rw [HN.out]; exact hB.b))))
    have HE := Lib.hid (And.intro HR.out (show Below w.heap.size w (W4.setRow (N + 1) A) from (kept_setRow _ _ _).out hB.bel hB.bel.size (fun k hk' e => by rw [HN.out] at e; omega)))
    clear hA hB hAA hq
    go_wp2_with (first
      | (refine wpList_load_row rfl 35 (.tmp 3) rfl (N + 1 + 1) rfl 35 A (0, 0) _ HA.out.1 Try.underlying35 rfl (by rw [HA.out.2.1]; kernel_rfl) ?_)
      | (refine wpList_store_row rfl 35 (.tmp 2) (.tmp 20) rfl (N + 1) A rfl rfl 35 _ HA.out.2.2.2 (by rw [HA.out.2.1]; kernel_rfl) (by rw [HA.out.2.1]; rfl) HA.out.2.2.1 ?_))
    refine bodyPost_ret (results_cell_row Try.results17 _ _ (N + 1) 35 A (0, 0) _ rfl (setRow_heap _ _ _ _ _ _ HA.out.2.2.2) Try.underlying35 rfl (by rw [HA.out.2.1]; kernel_rfl)) rfl ?_
    exact ⟨by rw [HE.out.1], HE.out.2⟩
  · have d1 : decide (p.kind < 1) = false := by simpa using h1
    have d2 : decide (11 < p.kind) = true := by have := HQ.out; simp; omega
    go_upto_region 3 with (fail)
    clear c0 h1 d1 d2
    have hq : selZ p = selP p := by unfold selP; have := HQ.out; simp [this]
    have hA := (show ClnSt w W4 p (selP p) from by rw [← hq]; exact HST.out).q
    have hB := (HST.out : ClnSt w W4 p _).st
    generalize hAA : pktA (selP p) = A at hA HR
    have HA := Lib.hid (And.intro (show W4.heap[N + 1 + 1]? = some (.cells A 35 (0, 0)) by rw [HN.out]; exact hA) (And.intro (show A.size = 22 by rw [← hAA]; rfl) (And.intro (show A.all (·.oneCell') = true by rw [← hAA]; exact oneCell_pktA _) (show W4.heap[N + 1]? = some (.cells (pktA zeroP) 35 (0, 0)) by rw [HN.out]; exact hB.b))))
    have HE := Lib.hid (And.intro HR.out (show Below w.heap.size w (W4.setRow (N + 1) A) from (kept_setRow _ _ _).out hB.bel hB.bel.size (fun k hk' e => by rw [HN.out] at e; omega)))
    clear hA hB hAA hq
    go_wp2_with (first
      | (refine wpList_load_row rfl 35 (.tmp 3) rfl (N + 1 + 1) rfl 35 A (0, 0) _ HA.out.1 Try.underlying35 rfl (by rw [HA.out.2.1]; kernel_rfl) ?_)
      | (refine wpList_store_row rfl 35 (.tmp 2) (.tmp 20) rfl (N + 1) A rfl rfl 35 _ HA.out.2.2.2 (by rw [HA.out.2.1]; kernel_rfl) (by rw [HA.out.2.1]; rfl) HA.out.2.2.1 ?_))
    refine bodyPost_ret (results_cell_row Try.results17 _ _ (N + 1) 35 A (0, 0) _ rfl (setRow_heap _ _ _ _ _ _ HA.out.2.2.2) Try.underlying35 rfl (by rw [HA.out.2.1]; kernel_rfl)) rfl ?_
    exact ⟨by rw [HE.out.1], HE.out.2⟩
theorem refClean_any (p : Pkt) (w : World) : Calls Try.prog 17 #[.agg (pktA p)] w fun e w' => e = .returned (.agg (pktA (selP p))) ∧ Below w.heap.size w w' := by
  by_cases ho : p.kind < 1 ∨ 11 < p.kind
  · exact RClnO_any p w ho
  rcases kind_cases (show 1 ≤ p.kind ∧ p.kind ≤ 11 by omega) with e | e | e | e | e | e | e | e | e | e | e
  · exact RCln1_any p w e
  · exact RCln2_any p w e
  · exact RCln3_any p w e
  · exact RCln4_any p w e
  · exact RCln5_any p w e
  · exact RCln6_any p w e
  · exact RCln7_any p w e
  · exact RCln8_any p w e
  · exact RCln9_any p w e
  · exact RCln10_any p w e
  · exact RCln11_any p w e
end Go.Proofs.Ytgpojbmloielmaa
