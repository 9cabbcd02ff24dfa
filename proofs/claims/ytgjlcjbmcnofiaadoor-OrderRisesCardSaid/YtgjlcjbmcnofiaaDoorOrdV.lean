/-
  The laws OrderOne and OrderRises, ready for their rows.
  Conditions: those that each theorem names.
-/
import Derived.Test.YtgjlcjbmcnofiaaDoorOrdI
import Derived.Test.YtgjlcjbmcnofiaaDoorSortI
namespace Go.Proofs.YtgjlcjbmcnofiaaDoor
set_option linter.unusedVariables false
set_option linter.unusedSimpArgs false
open Go.RowKit
theorem MsgsAt.take {w : World} {ad : Option Addr} {cap cap' n : Nat} {l : List Msg} (h : MsgsAt w (.slice ad l.length cap) l) (hn : n ≤ l.length) : MsgsAt w (.slice ad n cap') (l.take n) := by
  obtain ⟨ad', c', e, hl, hm⟩ := h
  injection e with e0 _ _
  subst e0
  have hlen : (l.take n).length = n := by rw [List.length_take]; omega
  refine ⟨ad, cap', by rw [hlen], by omega, fun i hi => ?_⟩
  obtain ⟨B, O, e1, e2, e3, e4⟩ := hm i (by omega)
  rw [List.getElem_take]
  exact ⟨B, O, e1, e2, e3, e4⟩
theorem RowO.at_ {b0 : Nat} {w : World} {u : Value} {L : List Msg} (h : RowO b0 w u L) (hl : L.length ≤ 30) : ∃ X ad cap, u = .slice ad X.length cap ∧ X.length ≤ cap ∧ X.length = L.length ∧ MsgsAt w (.slice ad X.length cap) X ∧ X.map core = L.map core := by
  obtain ⟨X, h1, h2, h3⟩ := h
  have e : X.length = L.length := by simpa using congrArg List.length h2
  obtain ⟨ad, cap, rfl⟩ := ownForm h1
  refine ⟨X, ad, cap, rfl, ?_, e, (RowsAt.of_own h1).rowsIn.msgsAt (by omega) (fun m hm => (h3 m hm).1), h2⟩
  rcases h1.2 with ⟨hv, h0⟩ | ⟨g, cp, cur, hv, _, _, h4, _⟩
  · rw [h0]; exact Nat.zero_le _
  · injection hv with _ _ hv
    rw [hv]; exact h4
set_option maxRecDepth 100000 in
set_option maxHeartbeats 16000000 in
theorem law_orderOne (v vs va vb : Value) (l : List SentO) (ss ta tb : List Nat) (w : World) (hT : Tab w) (h : SentsO w v l) (hs : BytesO w vs ss) (ha : BytesO w va ta) (hb : BytesO w vb tb) :
    Calls Tryd.prog 3 #[v, vs, va, vb] w fun e w' => e = .returned (.bool true) ∧ Below w.heap.size w w' := by
  have HT := Lib.hid hT
  have HL := Lib.hid h
  have HS := Lib.hid hs
  have HA := Lib.hid ha
  have HB := Lib.hid hb
  have HAW := Lib.hid (awake14_any w hT)
  obtain ⟨ad, cap, rfl, hl9, _⟩ := id h
  obtain ⟨sd, scap, rfl, hs9, _⟩ := id hs
  obtain ⟨ada, acap, rfl, ha9, _⟩ := id ha
  obtain ⟨bd, bcap, rfl, hb9, _⟩ := id hb
  clear h hs ha hb hT
  go_enter Tryd.func3, Tryd.ntmps3
  go_wp2_with fail
  refine HAW.out.mono ?_
  rintro e w1 ⟨rfl, hb1⟩
  have HB1 := Lib.hid hb1
  clear hb1 HAW
  by_cases h30 : 30 < l.length
  · have d0 : decide ((30 : Int) < (l.length : Int)) = true := by simp; omega
    have d0' : decide (30 < l.length) = true := by simpa using h30
    go_wp2_with fail
    go_ret
    exact ⟨rfl, HB1.out⟩
  have d0 : decide ((30 : Int) < (l.length : Int)) = false := by simp; omega
  have d0' : decide (30 < l.length) = false := by simpa using h30
  by_cases ha100 : 100 < ta.length
  · have d1 : decide ((100 : Int) < (ta.length : Int)) = true := by simp; omega
    have d1' : decide (100 < ta.length) = true := by simpa using ha100
    go_wp2_with fail
    go_ret
    exact ⟨rfl, HB1.out⟩
  have d1 : decide ((100 : Int) < (ta.length : Int)) = false := by simp; omega
  have d1' : decide (100 < ta.length) = false := by simpa using ha100
  by_cases hb100 : 100 < tb.length
  · have d2 : decide ((100 : Int) < (tb.length : Int)) = true := by simp; omega
    have d2' : decide (100 < tb.length) = true := by simpa using hb100
    go_wp2_with fail
    go_ret
    exact ⟨rfl, HB1.out⟩
  have d2 : decide ((100 : Int) < (tb.length : Int)) = false := by simp; omega
  have d2' : decide (100 < tb.length) = false := by simpa using hb100
  have HLN := Lib.hid (show l.length ≤ 30 ∧ ta.length ≤ 100 ∧ tb.length ≤ 100 from ⟨by omega, by omega, by omega⟩)
  go_wp2_with fail
  clear d0 d0' d1 d1' d2 d2' h30 ha100 hb100
  go_loopw [9] (fun i wr => ∃ j : Nat, j ≤ l.length ∧ i = .int .i64 (j : Int) ∧ (∀ s ∈ l.take j, s.pay.size ≤ 500) ∧ Hid (Below w.heap.size w wr)) (fun i _ => l.length - (intOf i).toNat)
  case atStart => exact ⟨0, by omega, rfl, fun s hs => by simp at hs, HB1⟩
  case round =>
    obtain ⟨j, hj, rfl, hpay, HBW⟩ := hrel
    have HPY := Lib.hid hpay
    clear hpay
    by_cases hlt : j < l.length
    · --{
      have hbool : decide ((j : Int) < (l.length : Int)) = true := by simpa using hlt
      have hi0 : (j : Int) < (l.length : Int) := by omega
      obtain ⟨_, _, e0, _, hm⟩ := HL.out.below HBW.out
      injection e0 with e0 e1 e2
      subst e0
      subst e2
      clear e1
      obtain ⟨g, o, rfl, hg, hrow, hpb⟩ := hm j hlt
      have y3 : wr.cell? ⟨g, o + j * 4 + 3, none⟩ = some (.string (l[j]).pay) := hrow 3 _ rfl
      have htk : l.take (j + 1) = l.take j ++ [l[j]] := List.take_succ_eq_append_getElem hlt
      have HTK := Lib.hid htk
      have HLT := Lib.hid hlt
      generalize l[j] = x at *
      by_cases h5 : 500 < x.pay.size
      · have d5 : decide ((500 : Int) < (x.pay.size : Int)) = true := by simp; omega
        have d5' : decide (500 < x.pay.size) = true := by simpa using h5
        clear hm hg hrow htk
        go_wp2_with fail
        go_ret
        exact ⟨rfl, HBW.out⟩
      · have d5 : decide ((500 : Int) < (x.pay.size : Int)) = false := by simp; omega
        have d5' : decide (500 < x.pay.size) = false := by simpa using h5
        have HE := Lib.hid (show ∀ s ∈ l.take (j + 1), s.pay.size ≤ 500 from fun s hs => by
          rw [HTK.out] at hs
          rcases List.mem_append.1 hs with hs | hs
          · exact HPY.out s hs
          · rw [List.mem_singleton.1 hs]; omega)
        clear hm hg hrow htk HTK
        go_wp2_with fail
        exact ⟨⟨j + 1, HLT.out, by go_num, HE.out, HBW⟩, by have := HLT.out; simp [intOf]; omega⟩
      --}
    · have hbool : decide ((j : Int) < (l.length : Int)) = false := by simpa using hlt
      obtain rfl : j = l.length := by omega
      have HST := Lib.hid (stamped_any _ _ l ss wr (HL.out.below HBW.out) HLN.out.1 (by have := HPY.out; rw [List.take_length] at this; exact this) (HS.out.below HBW.out))
      clear hj hlt HPY HB1
      go_wp2_with fail
      refine HST.out.mono ?_
      rintro e w3 ⟨u3, M, c, rfl, hst, hml, hrow, hb3⟩
      obtain ⟨au, cu, rfl⟩ := ownForm hrow
      have hM30 : M.length ≤ 30 := by have := HLN.out.1; omega
      have hma : MsgsAt w3 (.slice au M.length cu) M := (RowsAt.of_own hrow).rowsIn.msgsAt (own_len hrow) (fun m hm => hst.ok hM30 w3 hm)
      have HB3 := Lib.hid (bt HBW.out hb3)
      have HM := Lib.hid (And.intro hst.hon (And.intro hM30 (And.intro (show ∀ m ∈ M, m.stamp ≤ 1000 from fun m hm => by
        obtain ⟨p, hp, e⟩ := hst.hon.frm m hm
        have h1 := hst.top m hm p e
        have h2 := hst.low p hp
        omega) (And.intro hma (And.intro (show RowsIn w3 (.slice au M.length cu) M from (RowsAt.of_own hrow).rowsIn) (show ∀ (W : World) (m : Msg), m ∈ M → MsgOk W m from fun W m hm => hst.ok hM30 W hm))))))
      have HF := Lib.hid (show ∀ (me : Int) (bv : Value) (T : List Nat) (en : Bool) (W : World), (me = 4 ∨ me = 5 ∨ me = 6) → BytesO w bv T → T.length ≤ 100 → Below w3.heap.size w3 W → Calls Tryd.prog 10 #[.int .i64 me, .slice au M.length cu, bv, .bool en] W fun e w' => ∃ X ad n cap, e = .returned (.slice ad X.length cap) ∧ n ≤ M.length ∧ (en = true → n = M.length) ∧ X.length = n ∧ X.length ≤ cap ∧ X.map core = ((sortM M).take n).map core ∧ MsgsAt w' (.slice ad X.length cap) X ∧ Below W.heap.size W w' from fun me bv T en W hme hbv hTl hbW => by
        have h0 := bt HB3.out hbW
        refine (fed_any me hme HM.out.1 HM.out.2.1 HM.out.2.2.1 (.slice au M.length cu) bv T W (HM.out.2.2.2.1.below hbW) (hbv.below h0) hTl en (HT.out.below h0 HT.out.lt)).mono ?_
        rintro e w' ⟨u, n, rfl, h1, h2, h3, h4⟩
        have hln : ((sortM M).take n).length = n := by rw [List.length_take, sortM_len]; omega
        obtain ⟨X, ad, cap, rfl, h5, h6, h7, h8⟩ := h3.at_ (by have := HM.out.2.1; omega)
        exact ⟨X, ad, n, cap, rfl, h1, h2, by omega, h5, h8, h7, h4⟩)
      clear hst hml hrow hb3 hma HST HBW
      go_wp2_with fail
      refine (HF.out 4 _ ta false w3 (.inl rfl) HA.out HLN.out.2.1 (br w3)).mono ?_
      rintro e w4 ⟨X, xd, n1, xc, rfl, a1, _, a3, a4, a5, a6, hb4⟩
      have H4 := Lib.hid (And.intro a1 (And.intro a3 (And.intro a4 (And.intro a5 (And.intro a6 hb4)))))
      clear a1 a3 a4 a5 a6 hb4
      go_wp2_with fail
      refine (HF.out 5 _ tb false w4 (.inr (.inl rfl)) HB.out HLN.out.2.2 H4.out.2.2.2.2.2).mono ?_
      rintro e w5 ⟨Y, yd, n2, yc, rfl, a1, _, a3, a4, a5, a6, hb5⟩
      have H5 := Lib.hid (And.intro a1 (And.intro a3 (And.intro a4 (And.intro a5 (And.intro a6 hb5)))))
      clear a1 a3 a4 a5 a6 hb5
      obtain ⟨n, hn⟩ : ∃ n, n = min X.length Y.length := ⟨_, rfl⟩
      have hnx : n ≤ X.length := by omega
      have hny : n ≤ Y.length := by omega
      have hncx : n ≤ xc := Nat.le_trans hnx H4.out.2.2.1
      have hncy : n ≤ yc := Nat.le_trans hny H5.out.2.2.1
      have HNN := Lib.hid (And.intro hn (And.intro hnx hny))
      have HALL := Lib.hid (show ∀ W c1 c2, Below w5.heap.size w5 W → Calls Tryd.prog 11 #[.slice xd n c1, .slice yd n c2] W fun e w' => e = .returned (.bool true) ∧ Below W.heap.size W w' from fun W c1 c2 hW => by
        have hx := ((H4.out.2.2.2.2.1.below (bt H5.out.2.2.2.2.2 hW)).take (cap' := c1) hnx)
        have hy := ((H5.out.2.2.2.2.1.below hW).take (cap' := c2) hny)
        have := All_any _ _ (X.take n) (Y.take n) W hx hy
        rw [allM_core (by
          rw [List.map_take, List.map_take, H4.out.2.2.2.1, H5.out.2.2.2.1, ← List.map_take, ← List.map_take, List.take_take, List.take_take]
          have e1 := H4.out.2.1
          have e2 := H5.out.2.1
          rw [show min n n1 = n by omega, show min n n2 = n by omega])] at this
        exact this)
      have hx64 : X.length ≤ 30 := by have := H4.out.1; have := H4.out.2.1; have := HM.out.2.1; omega
      have hy64 : Y.length ≤ 30 := by have := H5.out.1; have := H5.out.2.1; have := HM.out.2.1; omega
      go_upto_region 12 with (fail)
      go_cut [13] (fun s13 wx => s13 = .int .i64 (n : Int) ∧ wx = w5)
      case first =>
        clear hnx hny hncx hncy
        go_wp2_with fail
        all_goals
          go_meet
          exact ⟨by congr 1; omega, rfl⟩
      case rest =>
        obtain ⟨rfl, rfl⟩ := hcut
        have HB5 := Lib.hid (bt H4.out.2.2.2.2.2 H5.out.2.2.2.2.2)
        clear hn hx64 hy64 H4 H5
        generalize X.length = xl at *
        generalize Y.length = yl at *
        have i1 : (n : Int) ≤ (xc : Int) := by omega
        have i2 : (n : Int) ≤ (yc : Int) := by omega
        go_upto_region 13 with (fail)
        refine wp_region_bel_tail 6 (by kernel_rfl) (by kernel_rfl) ?_
        simp only [List.take_succ_cons, List.take_zero, List.drop_succ_cons, List.drop_zero]
        repeat (go_big_quiet_step ((fail)))
        refine wpQuiet_nil ?_
        intro w6 hw6
        have hb6 := bel_out hw6
        have HB6 := Lib.hid hb6
        clear hw6 hb6 i1 i2
        go_wp2_with fail
        refine (HALL.out w6 _ _ HB6.out).mono ?_
        rintro e w7 ⟨rfl, hb7⟩
        have HB7 := Lib.hid (bt HB5.out (bt HB6.out hb7))
        clear hb7 HALL HB6
        go_wp2_with fail
        refine (HF.out 4 _ ta true w7 (.inl rfl) HA.out HLN.out.2.1 HB7.out).mono ?_
        rintro e w8 ⟨U, ud, m1, uc, rfl, _, a2, a3, _, a5, a6, hb8⟩
        have HB8 := Lib.hid (bt HB7.out hb8)
        have H8 := Lib.hid (And.intro (a2 rfl) (And.intro a3 (And.intro a5 a6)))
        clear a2 a3 a5 a6 hb8 HB7
        go_wp2_with fail
        refine (HF.out 5 _ tb true w8 (.inr (.inl rfl)) HB.out HLN.out.2.2 HB8.out).mono ?_
        rintro e w9 ⟨V, vd, m2, vc, rfl, _, a2, a3, _, a5, a6, hb9⟩
        have HB9 := Lib.hid (bt HB8.out hb9)
        have H9 := Lib.hid (And.intro (a2 rfl) (And.intro a3 (And.intro a5 (And.intro a6 (H8.out.2.2.2.below hb9)))))
        clear a2 a3 a5 a6 hb9 HB8 HF
        have HSO := Lib.hid (rSort_any (.slice au M.length cu) M w9 (HM.out.2.2.2.2.1.below HB9.out) (by have := HM.out.2.1; omega))
        have htk : (sortM M).take M.length = sortM M := List.take_of_length_le (by rw [sortM_len]; exact Nat.le_refl _)
        have HUC := Lib.hid (show U.map core = (sortM M).map core ∧ V.map core = U.map core from by
          have h1 := H8.out.2.2.1
          have h2 := H9.out.2.2.1
          rw [H8.out.1, htk] at h1
          rw [H9.out.1, htk] at h2
          exact ⟨h1, h2.trans h1.symm⟩)
        clear htk
        go_wp2_with fail
        refine HSO.out.mono ?_
        rintro e w10 ⟨⟨v10, rfl, hr10⟩, hb10⟩
        obtain ⟨ad10, c10, rfl⟩ := ownForm hr10
        have hm10 : MsgsAt w10 (.slice ad10 (sortM M).length c10) (sortM M) := (RowsAt.of_own hr10).rowsIn.msgsAt (own_len hr10) (fun m hm => HM.out.2.2.2.2.2 w10 m ((sortM_same M).1.mem_iff.2 hm))
        have hall := All_any _ _ U (sortM M) w10 (H9.out.2.2.2.2.below hb10) hm10
        rw [allM_core HUC.out.1] at hall
        have HAll := Lib.hid hall
        have HB10 := Lib.hid (And.intro (bt HB9.out hb10) hb10)
        generalize (sortM M).length = sl at *
        generalize U.length = ul at *
        clear hr10 hm10 hall hb10 HSO
        go_wp2_with fail
        refine HAll.out.mono ?_
        rintro e w11 ⟨rfl, hb11⟩
        have hall2 := All_any _ _ V U w11 (H9.out.2.2.2.1.below (bt HB10.out.2 hb11)) (H9.out.2.2.2.2.below (bt HB10.out.2 hb11))
        rw [allM_core HUC.out.2] at hall2
        have HAll2 := Lib.hid hall2
        have HB11 := Lib.hid (bt HB10.out.1 hb11)
        clear hall2 hb11 HAll HB10
        go_wp2_with fail
        refine HAll2.out.mono ?_
        rintro e w12 ⟨rfl, hb12⟩
        have HE := Lib.hid (bt HB3.out (bt HB11.out hb12))
        clear hb12 HAll2
        go_wp2_with fail
        go_ret
        exact ⟨rfl, HE.out⟩
end Go.Proofs.YtgjlcjbmcnofiaaDoor
namespace Go.Proofs.YtgjlcjbmcnofiaaDoor
set_option linter.unusedVariables false
set_option linter.unusedSimpArgs false
open Go.RowKit
/-- while what was delivered is gone through -/
structure RiseSt (w4 : World) (M : List Msg) (AT i : Nat) (wr : World) : Prop where
  bel : Below w4.heap.size w4 wr
  at_ : wr.heap[AT]? = some (.cells (four .u32 fun p => (sentP ((sortM M).take i) p).length) 34 (0, 0))
  low : w4.heap.size ≤ AT
theorem keyZ_lt {a b : Msg} (h : keyLt (keyM a) (keyM b)) : keyZ a.stamp a.frm b.stamp b.frm < 0 := by
  have := keyZ_vals a.stamp a.frm b.stamp b.frm
  unfold keyLt keyM at *
  simp only at *
  omega
theorem rise_at {M X : List Msg} (hM : Hon M) (hX : X.map core = (sortM M).map core) {i : Nat} (hi : i < X.length) :
    ∃ p : Nat, p < 4 ∧ (X[i]).frm = (p : Int) ∧ (X[i]).seq = (sentP ((sortM M).take i) p).length + 1 ∧ (fun r => (sentP ((sortM M).take (i + 1)) r).length) = upd (fun r => (sentP ((sortM M).take i) r).length) p ((sentP ((sortM M).take i) p).length + 1) ∧
      ∀ j (hj : j + 1 = i), keyZ (X[j]'(by omega)).stamp (X[j]'(by omega)).frm (X[i]).stamp (X[i]).frm < 0 := by
  have hl : X.length = (sortM M).length := by simpa using congrArg List.length hX
  have hc : ∀ j (hj : j < X.length), core X[j] = core ((sortM M)[j]'(by omega)) := fun j hj => by
    have h1 := congrArg (fun l => l[j]?) hX
    simp only [List.getElem?_map, List.getElem?_eq_getElem hj, List.getElem?_eq_getElem (show j < (sortM M).length by omega), Option.map_some] at h1
    injection h1
  have hG : i < (sortM M).length := by omega
  obtain ⟨p, hp, hf⟩ := hM.frm _ ((sortM_same M).1.mem_iff.2 (List.getElem_mem hG))
  have e1 := core_key (hc i hi)
  have htk : (sortM M).take (i + 1) = (sortM M).take i ++ [(sortM M)[i]] := List.take_succ_eq_append_getElem hG
  have hsp : sentP ((sortM M).take (i + 1)) p = sentP ((sortM M).take i) p ++ [(sortM M)[i]] := by
    rw [htk, sentP_snoc, if_pos hf]
  have hseq : ((sortM M)[i]).seq = (sentP ((sortM M).take i) p).length + 1 := by
    have hall : sentP M p = (sentP ((sortM M).take i) p ++ [(sortM M)[i]]) ++ sentP ((sortM M).drop (i + 1)) p := by
      rw [← hsp, ← sentP_app, List.take_append_drop, sentP_sort hM]
    refine hM.seq p _ _ ?_
    rw [hall, List.getElem?_append_left (by simp), List.getElem?_append_right (Nat.le_refl _)]
    simp
  refine ⟨p, hp, e1.2.1.trans hf, e1.2.2.2.trans hseq, ?_, fun j hj => ?_⟩
  · funext r
    rw [htk, sentP_snoc]
    by_cases e : r = p
    · subst e; rw [upd_same, if_pos hf]; simp
    · rw [upd_ne _ _ e, if_neg (by omega)]
  · have hjX : j < X.length := by omega
    have h1 := (List.pairwise_iff_getElem.1 hM.sorted) j i (by omega) hG (by omega)
    refine keyZ_lt ?_
    rw [(core_key (hc j hjX)).1, e1.1]
    exact h1
set_option maxRecDepth 100000 in
set_option maxHeartbeats 16000000 in
theorem law_orderRises (v vs va : Value) (l : List SentO) (ss ta : List Nat) (w : World) (hT : Tab w) (h : SentsO w v l) (hs : BytesO w vs ss) (ha : BytesO w va ta) :
    Calls Tryd.prog 4 #[v, vs, va] w fun e w' => e = .returned (.bool true) ∧ Below w.heap.size w w' := by
  have HT := Lib.hid hT
  have HL := Lib.hid h
  have HS := Lib.hid hs
  have HA := Lib.hid ha
  have HAW := Lib.hid (awake14_any w hT)
  obtain ⟨ad, cap, rfl, hl9, _⟩ := id h
  obtain ⟨sd, scap, rfl, hs9, _⟩ := id hs
  obtain ⟨ada, acap, rfl, ha9, _⟩ := id ha
  clear h hs ha hT
  go_enter Tryd.func4, Tryd.ntmps4
  go_wp2_with fail
  refine HAW.out.mono ?_
  rintro e w1 ⟨rfl, hb1⟩
  have HB1 := Lib.hid hb1
  clear hb1 HAW
  by_cases h30 : 30 < l.length
  · have d0 : decide ((30 : Int) < (l.length : Int)) = true := by simp; omega
    have d0' : decide (30 < l.length) = true := by simpa using h30
    go_wp2_with fail
    go_ret
    exact ⟨rfl, HB1.out⟩
  have d0 : decide ((30 : Int) < (l.length : Int)) = false := by simp; omega
  have d0' : decide (30 < l.length) = false := by simpa using h30
  by_cases ha100 : 100 < ta.length
  · have d1 : decide ((100 : Int) < (ta.length : Int)) = true := by simp; omega
    have d1' : decide (100 < ta.length) = true := by simpa using ha100
    go_wp2_with fail
    go_ret
    exact ⟨rfl, HB1.out⟩
  have d1 : decide ((100 : Int) < (ta.length : Int)) = false := by simp; omega
  have d1' : decide (100 < ta.length) = false := by simpa using ha100
  have HLN := Lib.hid (show l.length ≤ 30 ∧ ta.length ≤ 100 from ⟨by omega, by omega⟩)
  go_wp2_with fail
  clear d0 d0' d1 d1' h30 ha100
  go_loopw [7] (fun i wr => ∃ j : Nat, j ≤ l.length ∧ i = .int .i64 (j : Int) ∧ (∀ s ∈ l.take j, s.pay.size ≤ 500) ∧ Hid (Below w.heap.size w wr)) (fun i _ => l.length - (intOf i).toNat)
  case atStart => exact ⟨0, by omega, rfl, fun s hs => by simp at hs, HB1⟩
  case round =>
    obtain ⟨j, hj, rfl, hpay, HBW⟩ := hrel
    have HPY := Lib.hid hpay
    clear hpay
    by_cases hlt : j < l.length
    · --{
      have hbool : decide ((j : Int) < (l.length : Int)) = true := by simpa using hlt
      have hi0 : (j : Int) < (l.length : Int) := by omega
      obtain ⟨_, _, e0, _, hm⟩ := HL.out.below HBW.out
      injection e0 with e0 e1 e2
      subst e0
      subst e2
      clear e1
      obtain ⟨g, o, rfl, hg, hrow, hpb⟩ := hm j hlt
      have y3 : wr.cell? ⟨g, o + j * 4 + 3, none⟩ = some (.string (l[j]).pay) := hrow 3 _ rfl
      have htk : l.take (j + 1) = l.take j ++ [l[j]] := List.take_succ_eq_append_getElem hlt
      have HTK := Lib.hid htk
      have HLT := Lib.hid hlt
      generalize l[j] = x at *
      by_cases h5 : 500 < x.pay.size
      · have d5 : decide ((500 : Int) < (x.pay.size : Int)) = true := by simp; omega
        have d5' : decide (500 < x.pay.size) = true := by simpa using h5
        clear hm hg hrow htk
        go_wp2_with fail
        go_ret
        exact ⟨rfl, HBW.out⟩
      · have d5 : decide ((500 : Int) < (x.pay.size : Int)) = false := by simp; omega
        have d5' : decide (500 < x.pay.size) = false := by simpa using h5
        have HE := Lib.hid (show ∀ s ∈ l.take (j + 1), s.pay.size ≤ 500 from fun s hs => by
          rw [HTK.out] at hs
          rcases List.mem_append.1 hs with hs | hs
          · exact HPY.out s hs
          · rw [List.mem_singleton.1 hs]; omega)
        clear hm hg hrow htk HTK
        go_wp2_with fail
        exact ⟨⟨j + 1, HLT.out, by go_num, HE.out, HBW⟩, by have := HLT.out; simp [intOf]; omega⟩
      --}
    · have hbool : decide ((j : Int) < (l.length : Int)) = false := by simpa using hlt
      obtain rfl : j = l.length := by omega
      have HST := Lib.hid (stamped_any _ _ l ss wr (HL.out.below HBW.out) HLN.out.1 (by have := HPY.out; rw [List.take_length] at this; exact this) (HS.out.below HBW.out))
      clear hj hlt HPY HB1
      go_wp2_with fail
      refine HST.out.mono ?_
      rintro e w3 ⟨u3, M, c, rfl, hst, hml, hrow, hb3⟩
      obtain ⟨au, cu, rfl⟩ := ownForm hrow
      have hM30 : M.length ≤ 30 := by have := HLN.out.1; omega
      have hma : MsgsAt w3 (.slice au M.length cu) M := (RowsAt.of_own hrow).rowsIn.msgsAt (own_len hrow) (fun m hm => hst.ok hM30 w3 hm)
      have HB3 := Lib.hid (bt HBW.out hb3)
      have HM := Lib.hid (And.intro hst.hon (And.intro hM30 (And.intro (show ∀ m ∈ M, m.stamp ≤ 1000 from fun m hm => by
        obtain ⟨p, hp, e⟩ := hst.hon.frm m hm
        have h1 := hst.top m hm p e
        have h2 := hst.low p hp
        omega) (And.intro hma (And.intro (show RowsIn w3 (.slice au M.length cu) M from (RowsAt.of_own hrow).rowsIn) (show ∀ (W : World) (m : Msg), m ∈ M → MsgOk W m from fun W m hm => hst.ok hM30 W hm))))))
      have HF := Lib.hid (show ∀ (me : Int) (bv : Value) (T : List Nat) (en : Bool) (W : World), (me = 4 ∨ me = 5 ∨ me = 6) → BytesO w bv T → T.length ≤ 100 → Below w3.heap.size w3 W → Calls Tryd.prog 10 #[.int .i64 me, .slice au M.length cu, bv, .bool en] W fun e w' => ∃ X ad n cap, e = .returned (.slice ad X.length cap) ∧ n ≤ M.length ∧ (en = true → n = M.length) ∧ X.length = n ∧ X.length ≤ cap ∧ X.map core = ((sortM M).take n).map core ∧ MsgsAt w' (.slice ad X.length cap) X ∧ Below W.heap.size W w' from fun me bv T en W hme hbv hTl hbW => by
        have h0 := bt HB3.out hbW
        refine (fed_any me hme HM.out.1 HM.out.2.1 HM.out.2.2.1 (.slice au M.length cu) bv T W (HM.out.2.2.2.1.below hbW) (hbv.below h0) hTl en (HT.out.below h0 HT.out.lt)).mono ?_
        rintro e w' ⟨u, n, rfl, h1, h2, h3, h4⟩
        have hln : ((sortM M).take n).length = n := by rw [List.length_take, sortM_len]; omega
        obtain ⟨X, ad, cap, rfl, h5, h6, h7, h8⟩ := h3.at_ (by have := HM.out.2.1; omega)
        exact ⟨X, ad, n, cap, rfl, h1, h2, by omega, h5, h8, h7, h4⟩)
      clear hst hml hrow hb3 hma HST HBW
      go_wp2_with fail
      refine (HF.out 6 _ ta true w3 (.inr (.inr rfl)) HA.out HLN.out.2 (br w3)).mono ?_
      rintro e w4 ⟨X, xd, n1, xc, rfl, _, a2, a3, a4, a5, a6, hb4⟩
      have e1 := a2 rfl
      subst e1
      have htk : (sortM M).take M.length = sortM M := List.take_of_length_le (by rw [sortM_len]; exact Nat.le_refl _)
      rw [htk] at a5
      obtain ⟨w5, hw5⟩ : ∃ w5, w5 = w4.alloc (.cells #[.int .u32 0, .int .u32 0, .int .u32 0, .int .u32 0] 34) := ⟨_, rfl⟩
      obtain ⟨AT, hAT⟩ : ∃ x, x = w4.heap.size := ⟨_, rfl⟩
      have hx5 : w5.heap[AT]? = some (.cells (four .u32 fun p => (sentP ((sortM M).take 0) p).length) 34 (0, 0)) := by rw [hw5, hAT]; exact heap_alloc_new w4 _
      have hb5 : Below w4.heap.size w4 w5 := by rw [hw5]; exact ba (br w4) _
      have HW5 := Lib.hid (And.intro hw5 hAT)
      have HX := Lib.hid (And.intro a3 (And.intro a5 a6))
      have HB5 := Lib.hid (And.intro (bt HB3.out hb4) (show RiseSt w4 M AT 0 w5 from ⟨hb5, hx5, by omega⟩))
      have hX30 : X.length ≤ 30 := by have := HM.out.2.1; omega
      clear a2 a3 a4 a5 a6 hb4 hw5 hAT hx5 hb5 htk HF
      obtain ⟨xl, hxl⟩ : ∃ x, x = X.length := ⟨_, rfl⟩
      have HXL := Lib.hid hxl
      rw [← hxl] at hX30 ⊢
      clear hxl
      go_upto_region 13 with (fail)
      rw [← HW5.out.1, ← HW5.out.2]
      clear HW5
      go_wp2_with fail
      go_loopw [11] (fun i wr => ∃ j : Nat, j ≤ xl ∧ i = .int .i64 (j : Int) ∧ Hid (RiseSt w4 M AT j wr)) (fun i _ => xl - (intOf i).toNat)
      case atStart => exact ⟨0, by omega, rfl, HB5.out.2⟩
      case round =>
        obtain ⟨i, hi, rfl, HR⟩ := hrel
        by_cases hlt : i < xl
        · --{
          have hbool : decide ((i : Int) < (xl : Int)) = true := by simpa using hlt
          have hi0 : (i : Int) < (xl : Int) := by omega
          obtain ⟨r1, r3, r4⟩ := HR.out
          obtain ⟨_, _, e0, _, hms⟩ := HX.out.2.2
          injection e0 with e0 e1 e2
          subst e0
          subst e2
          clear e1
          have hiX : i < X.length := by rw [← HXL.out]; exact hlt
          obtain ⟨g, o, rfl, hg, hmr, _⟩ := hms i hiX
          obtain ⟨p, hp4, hfp, hsq, hcn, hkz⟩ := rise_at HM.out.1 HX.out.2.1 hiX
          have R1 : ∀ w', (∃ y : Bel wr, w' = y.val) → w'.rangeAt g (o + i * 6) (msgA X[i]).toList := by
            rintro w' ⟨y, rfl⟩ a u hu
            exact ((bt r1 y.prop).cell (p := ⟨g, _, none⟩) hg).trans (hmr a u hu)
          have y0 : ∀ y : Bel wr, y.val.cell? ⟨g, o + i * 6, none⟩ = some (.int .i64 (p : Int)) := fun y => by rw [← hfp]; exact R1 _ ⟨y, rfl⟩ 0 _ rfl
          have y1 : ∀ y : Bel wr, y.val.cell? ⟨g, o + i * 6 + 1, none⟩ = some (.int .u32 (((sentP ((sortM M).take i) p).length + 1 : Nat) : Int)) := fun y => by rw [← hsq]; exact R1 _ ⟨y, rfl⟩ 1 _ rfl
          have ya : ∀ y : Bel wr, y.val.cell? ⟨AT, p, none⟩ = some (.int .u32 ((sentP ((sortM M).take i) p).length : Int)) := Bel.cell (by rw [cell_of_row _ _ p _ _ _ r3, four_get _ _ hp4]) (Array.getElem?_eq_some_iff.1 r3).1
          have hcl : (sentP ((sortM M).take i) p).length ≤ 30 := by
            have h1 := sent_len ((sortM M).take i) p
            have h2 : ((sortM M).take i).length ≤ M.length := by rw [List.length_take, sortM_len]; omega
            have := HM.out.2.1
            omega
          have HEND := Lib.hid (show ∀ w6, (∃ y : Bel wr, w6 = y.val) → RiseSt w4 M AT (i + 1) (w6.setCell ⟨AT, p, none⟩ (.int .u32 (((sentP ((sortM M).take i) p).length + 1 : Nat) : Int))) ∧ w6.cell? ⟨AT, p, none⟩ = some (.int .u32 ((sentP ((sortM M).take i) p).length : Int)) ∧ w6.frozen? ⟨AT, p, none⟩ = false ∧ w6.cell? ⟨g, o + i * 6, none⟩ = some (.int .i64 (p : Int)) from fun w6 hw6 => by
            have hb6 := bel_out hw6
            have t3 := (hb6.block _ (Array.getElem?_eq_some_iff.1 r3).1).trans r3
            have hk := kept_set w6 AT p (.int .u32 (((sentP ((sortM M).take i) p).length + 1 : Nat) : Int))
            have hcA : w6.cell? ⟨AT, p, none⟩ = some (.int .u32 ((sentP ((sortM M).take i) p).length : Int)) := by rw [cell_of_row _ _ p _ _ _ t3, four_get _ _ hp4]
            have hcg : (w6.cell? ⟨g, o + i * 6, none⟩ = some (.int .i64 (p : Int))) := by
              obtain ⟨y, rfl⟩ := hw6
              exact y0 y
            refine ⟨⟨hk.out (bt r1 hb6) (bt r1 hb6).size (fun b hb e => by omega), ?_, r4⟩, hcA, frozen_of_row _ _ _ _ _ t3, hcg⟩
            rw [setCell_block t3 p _, four_set _ _ hp4, hcn])
          have HKZ := Lib.hid hkz
          have HRR := Lib.hid (show ∀ (j : Nat) (hj : j < X.length) (w' : World), (∃ y : Bel wr, w' = y.val) → w'.rangeAt g (o + j * 6) (msgA X[j]).toList from fun j hj w' hw' => by
            obtain ⟨_, _, e0, _, hms⟩ := HX.out.2.2
            injection e0 with e0 e1 e2
            obtain ⟨g', o', e3, hg', hmr', _⟩ := hms j hj
            rw [e3] at e0
            injection e0 with e0
            injection e0 with e4 e5
            subst e4; subst e5
            obtain ⟨y, rfl⟩ := hw'
            intro a u hu
            exact ((bt r1 y.prop).cell (p := ⟨g, _, none⟩) hg').trans (hmr' a u hu))
          have hA : IntKind.u32.wrap (((sentP ((sortM M).take i) p).length : Int) + 1) = (((sentP ((sortM M).take i) p).length + 1 : Nat) : Int) := by simp [IntKind.wrap, IntKind.signed, IntKind.bits]; omega
          generalize (((sentP ((sortM M).take i) p).length + 1 : Nat) : Int) = CN1 at *
          generalize (sentP ((sortM M).take i) p).length = CN0 at *
          have hp4' : (p : Int) < 4 := by omega
          have HLT := Lib.hid hlt
          clear r1 r3 r4 hms hmr hg hcn hkz hfp hsq hp4 HR
          have HEND2 := Lib.hid (show ∀ w6, (∃ y : Bel wr, w6 = y.val) → Hid (RiseSt w4 M AT (i + 1) (w6.setCell ⟨AT, p, none⟩ (.int .u32 CN1))) ∧ w6.cell? ⟨AT, p, none⟩ = some (.int .u32 (CN0 : Int)) ∧ w6.frozen? ⟨AT, p, none⟩ = false ∧ w6.cell? ⟨g, o + i * 6, none⟩ = some (.int .i64 (p : Int)) from fun w6 hw6 => ⟨(HEND.out w6 hw6).1, (HEND.out w6 hw6).2⟩)
          clear HEND
          go_upto_region 16 with (fail)
          by_cases hz : i = 0
          · have d0 : decide ((0 : Int) < (i : Int)) = false := by simp; omega
            have d0' : decide (0 < i) = false := by simp; omega
            clear hz
            refine wp_region_bel (by kernel_rfl) (by kernel_rfl) ?_
            repeat (go_big_quiet_step ((fail)))
            refine wpQuiet_nil ?_
            intro w6 hw6
            obtain ⟨hE, c1, c2, c3⟩ := HEND2.out w6 hw6
            clear hw6 y0 y1 ya R1 HEND2 HRR HKZ
            go_wp2_with fail
            exact ⟨⟨i + 1, HLT.out, by go_num, hE⟩, by have := HLT.out; simp [intOf]; omega⟩
          · have d0 : decide ((0 : Int) < (i : Int)) = true := by simp; omega
            have d0' : decide (0 < i) = true := by simp; omega
            obtain ⟨j, hj⟩ : ∃ j, j + 1 = i := ⟨i - 1, by omega⟩
            have hjX : j < X.length := by omega
            have RJ := Lib.hid (HRR.out j hjX)
            have hkz := HKZ.out j hj
            have RI := Lib.hid R1
            clear R1 HRR HKZ
            generalize (X[j]'hjX) = mj at *
            generalize X[i] = mi at *
            have HOJ := Lib.hid (show ∀ y : Bel wr, Calls Tryd.prog 14 #[.agg (msgA mj)] y.val _ from fun y => kOf_any mj y.val)
            have HOI := Lib.hid (show ∀ y : Bel wr, Calls Tryd.prog 14 #[.agg (msgA mi)] y.val _ from fun y => kOf_any mi y.val)
            have HCM := Lib.hid (show ∀ y : Bel wr, Calls Tryd.prog 13 #[.agg #[.int .u64 (mj.stamp : Int), .int .i64 mj.frm], .agg #[.int .u64 (mi.stamp : Int), .int .i64 mi.frm]] y.val _ from fun y => kCmp_any _ _ _ _ y.val)
            have hsub : (i : Int) - 1 = (j : Int) := by omega
            have hj0 : (j : Int) < (xl : Int) := by omega
            have dk : decide (0 ≤ keyZ (mj.stamp : Int) mj.frm (mi.stamp : Int) mi.frm) = false := by simp; omega
            generalize keyZ (mj.stamp : Int) mj.frm (mi.stamp : Int) mi.frm = kz at *
            clear hz hj hkz hjX
            refine wp_region_bel (by kernel_rfl) (by kernel_rfl) ?_
            iterate 7 (go_big_quiet_step ((fail)))
            refine wpQuiet_load_want (by rfl) 42 (.tmp 53) rfl g (o + j * 6) rfl (msgA mj).toList _ RJ.out Tryd.underlying42 rfl (by kernel_rfl) ?_
            go_simp
            repeat (go_big_quiet_step ((go_at_call 14; with_reducible exact bel_call (HOJ.out _))))
            refine wpQuiet_load_want (by rfl) 42 (.tmp 58) rfl g (o + i * 6) rfl (msgA mi).toList _ RI.out Tryd.underlying42 rfl (by kernel_rfl) ?_
            go_simp
            go_big_quiet_step ((go_at_call 14; with_reducible exact bel_call (HOI.out _)))
            repeat (go_big_quiet_step ((go_at_call 13; with_reducible exact bel_call (HCM.out _))))
            refine wpQuiet_nil ?_
            intro x6
            obtain ⟨hE, c1, c2, c3⟩ := HEND2.out x6.val ⟨x6, rfl⟩
            generalize x6.val = w6 at *
            clear y0 y1 ya RI RJ HEND2 HOI HOJ HCM hsub hj0 dk
            go_wp2_with fail
            exact ⟨⟨i + 1, HLT.out, by go_num, hE⟩, by have := HLT.out; simp [intOf]; omega⟩
          --}
        · have hbool : decide ((i : Int) < (xl : Int)) = false := by simpa using hlt
          obtain rfl : i = xl := by omega
          have hlen : i = M.length := by rw [HXL.out]; exact HX.out.1
          have HBE := Lib.hid (bt HB5.out.1 HR.out.bel)
          clear HR HX HXL
          have hb93 : ((i : Int) == (M.length : Int)) = true := by rw [hlen]; simp
          go_wp2_with fail
          go_ret
          exact ⟨by first | rfl | simp [hlen], HBE.out⟩
end Go.Proofs.YtgjlcjbmcnofiaaDoor
namespace Go.Proofs.YtgjlcjbmcnofiaaDoor
open Go.ChangeShapes Go.WideShapes Go.ChangeAt Go.WideMaps Go.WideElems Go.RowKit
set_option linter.unusedVariables false
set_option linter.unusedSimpArgs false
section
variable {H : Type} {enc : TypeId × Value → H} {base : Nat} {spare : Nat → Bool} {held : Bool}
set_option maxRecDepth 100000 in
theorem orderOne_row (v0 v1 v2 v3 : Value) (W : World) {r0 : Reach} {b0 : Nat} {d0 : DataW H} {p0 : List MemPlace} {r1 : Reach} {b1 : Nat} {d1 : DataW H} {p1 : List MemPlace} {r2 : Reach} {b2 : Nat} {d2 : DataW H} {p2 : List MemPlace} {r3 : Reach} {b3 : Nat} {d3 : DataW H} {p3 : List MemPlace}
    (hv0 : Value.okWide Tryd.prog W r0 b0 22 v0) (h0 : DataW.Trod enc Tryd.prog W base spare held 22 v0 d0 p0) (hv1 : Value.okWide Tryd.prog W r1 b1 23 v1) (h1 : DataW.Trod enc Tryd.prog W base spare held 23 v1 d1 p1) (hv2 : Value.okWide Tryd.prog W r2 b2 23 v2) (h2 : DataW.Trod enc Tryd.prog W base spare held 23 v2 d2 p2) (hv3 : Value.okWide Tryd.prog W r3 b3 23 v3) (h3 : DataW.Trod enc Tryd.prog W base spare held 23 v3 d3 p3) (hL : laidMetH Tryd.prog laidB W) :
    Calls Tryd.prog 3 #[v0, v1, v2, v3] W fun e w' => e = .returned (.bool true) ∧ Below W.heap.size W w' := by
  obtain ⟨l0, hl0⟩ := sents_arg hv0 h0
  obtain ⟨l1, hl1⟩ := bytes_arg hv1 h1
  obtain ⟨l2, hl2⟩ := bytes_arg hv2 h2
  obtain ⟨l3, hl3⟩ := bytes_arg hv3 h3
  exact law_orderOne v0 v1 v2 v3 l0 l1 l2 l3 W (tab_of_laid hL) hl0 hl1 hl2 hl3
set_option maxRecDepth 100000 in
theorem orderRises_row (v0 v1 v2 : Value) (W : World) {r0 : Reach} {b0 : Nat} {d0 : DataW H} {p0 : List MemPlace} {r1 : Reach} {b1 : Nat} {d1 : DataW H} {p1 : List MemPlace} {r2 : Reach} {b2 : Nat} {d2 : DataW H} {p2 : List MemPlace}
    (hv0 : Value.okWide Tryd.prog W r0 b0 22 v0) (h0 : DataW.Trod enc Tryd.prog W base spare held 22 v0 d0 p0) (hv1 : Value.okWide Tryd.prog W r1 b1 23 v1) (h1 : DataW.Trod enc Tryd.prog W base spare held 23 v1 d1 p1) (hv2 : Value.okWide Tryd.prog W r2 b2 23 v2) (h2 : DataW.Trod enc Tryd.prog W base spare held 23 v2 d2 p2) (hL : laidMetH Tryd.prog laidB W) :
    Calls Tryd.prog 4 #[v0, v1, v2] W fun e w' => e = .returned (.bool true) ∧ Below W.heap.size W w' := by
  obtain ⟨l0, hl0⟩ := sents_arg hv0 h0
  obtain ⟨l1, hl1⟩ := bytes_arg hv1 h1
  obtain ⟨l2, hl2⟩ := bytes_arg hv2 h2
  exact law_orderRises v0 v1 v2 l0 l1 l2 W (tab_of_laid hL) hl0 hl1 hl2
end
end Go.Proofs.YtgjlcjbmcnofiaaDoor
