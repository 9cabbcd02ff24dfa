/-
  An order's Next: the first message by keys, if it is ripe.
  Conditions: those that each theorem names.
-/
import Derived.Test.YtgjlcjbmcnofiaaDoorOrdC
namespace Go.Proofs.YtgjlcjbmcnofiaaDoor
set_option linter.unusedVariables false
set_option linter.unusedSimpArgs false
open Go.RowKit
def PO.mark (O : PO) (s : Int) : Nat := if s = 2 then O.H.safe else O.H.all
def PO.ripe (O : PO) : Option Msg := match O.head with
  | none => none
  | some m => if O.mark m.service < m.stamp then none else some m
def PO.took (O : PO) (m : Msg) : PO := { O with dn := upd O.dn m.frm.toNat (O.dn m.frm.toNat + 1), ls := m.stamp, lf := m.frm }
def PO.next (O : PO) : PO := match O.ripe with
  | none => O
  | some m => O.took m
theorem headStep_or (O : PO) (b : Option Msg) (p : Nat) : headStep O b p = b ∨ headStep O b p = nextO O p := by
  unfold headStep
  cases h : nextO O p with
  | none => exact .inl rfl
  | some m =>
    cases b with
    | none => exact .inr rfl
    | some c =>
      simp only
      split
      · exact .inr rfl
      · exact .inl rfl
theorem head_from (O : PO) : ∀ (l : List Nat) (b : Option Msg) (m : Msg), l.foldl (headStep O) b = some m → b = some m ∨ ∃ p ∈ l, nextO O p = some m
  | [], b, m, h => .inl h
  | p :: l, b, m, h => by
    rcases head_from O l _ m h with h1 | ⟨q, hq, h1⟩
    · rcases headStep_or O b p with h2 | h2
      · exact .inl (h2.symm.trans h1)
      · exact .inr ⟨p, List.mem_cons_self, h2.symm.trans h1⟩
    · exact .inr ⟨q, List.mem_cons_of_mem _ hq, h1⟩
theorem head_next {O : PO} {m : Msg} (h : O.head = some m) : ∃ p ∈ listS O.mb, nextO O p = some m := by
  rcases head_from O _ _ m h with h | h
  · cases h
  · exact h
theorem getZ_mem {lo : Nat → Nat} {R : Nat → List Msg} {p seq : Nat} {m : Msg} (h : getZ lo R (p : Int) seq = some m) : p < 64 ∧ m ∈ R p ∧ lo p < seq ∧ seq ≤ lo p + (R p).length := by
  unfold getZ at h
  split at h
  · next hc =>
    injection h with h
    have e : ((p : Int)).toNat = p := by simp
    rw [e] at hc h
    have hp : p < 64 := by
      have := hc.1
      unfold procB at this
      simp at this
      omega
    rw [gm_get (by omega)] at h
    exact ⟨hp, h ▸ List.getElem_mem _, hc.2.1, hc.2.2⟩
  · cases h
theorem head_frm {O : PO} {m : Msg} (hk : OrOk O) (h : O.head = some m) : m.frm = (m.frm.toNat : Int) ∧ m.frm.toNat < 64 := by
  obtain ⟨p, hp, hn⟩ := head_next h
  obtain ⟨h1, h2, _⟩ := getZ_mem hn
  have := hk.frm p h1 m h2
  rw [this]
  simp
  omega
/-- what Next leaves -/
def NextEnd (w : World) (B D Z : Nat) (V VH : Nat → Value) (O : PO) (e : Ending) (w' : World) : Prop := GetEnd3 w.heap.size O.ripe e w' ∧ OrTo w B D Z V VH O.next w'
theorem bld0 : Tryd.prog.built 42 [] = some (msgA zeroM) := by kernel_rfl
set_option maxRecDepth 100000 in
set_option maxHeartbeats 16000000 in
theorem orNext_any {w : World} {B D Z : Nat} {O : PO} {V VH : Nat → Value} (h : OrAt w B D Z O V VH) (hk : OrOk O) (hT : Tab w) :
    Calls Tryd.prog 34 #[.pointer (some ⟨B, 0, none⟩)] w (NextEnd w B D Z V VH O) := by
  obtain ⟨zc, hzc⟩ : ∃ z, z = msgA zeroM := ⟨_, rfl⟩
  have hz : ∀ W : World, (zeroValue 42).run Tryd.prog W = .ok (.agg zc) W := fun W => by rw [hzc]; kernel_rfl
  obtain ⟨wa, hwa⟩ : ∃ W, W = w.alloc (.cells zc 42) := ⟨_, rfl⟩
  have hba : Below w.heap.size w wa := by rw [hwa]; exact ba (br w) _
  have hra : wa.heap[w.heap.size]? = some (.cells zc 42 (0, 0)) := by rw [hwa]; exact heap_alloc_new w _
  obtain ⟨RB, hRB⟩ : ∃ x, x = w.heap.size := ⟨_, rfl⟩
  rw [← hRB] at hra
  have HHD := Lib.hid (orHead_any (h.below hba) hk (hT.below hba hT.lt))
  have H0 := Lib.hid (And.intro h (And.intro hk (And.intro hT (And.intro hra (And.intro hba hRB)))))
  have HW := Lib.hid hwa
  have HZC := Lib.hid hzc
  clear hra hba hwa hRB hT h hk hzc
  go_enter Tryd.func34, Tryd.ntmps34
  go_upto_region 1 with (fail)
  rw [← HW.out, ← H0.out.2.2.2.2.2]
  go_wp2_with fail
  refine HHD.out.mono ?_
  rintro e w1 ⟨hg1, hb1⟩
  obtain ⟨mv, rfl, hgot⟩ := got_of hg1
  obtain ⟨cx, hcx⟩ : ∃ cx, cx = msgA mv := ⟨_, rfl⟩
  obtain ⟨ok, hok⟩ : ∃ ok, ok = O.head.isSome := ⟨_, rfl⟩
  rw [← hcx, ← hok]
  have HCX := Lib.hid (show cx = msgA mv ∧ (Tryd.prog.info? 42).map (·.size) = some cx.size ∧ zc.size = cx.size ∧ cx.all (·.oneCell') = true from by rw [hcx, HZC.out]; exact ⟨rfl, szM, rfl, enM_all mv⟩)
  obtain ⟨MB, hMB⟩ : ∃ x, x = w1.heap.size := ⟨_, rfl⟩
  obtain ⟨w2, hw2⟩ : ∃ w2, w2 = (w1.alloc (.cells zc 42)).setRow MB cx := ⟨_, rfl⟩
  have hz1 := heap_alloc_new w1 (.cells zc 42)
  rw [← hMB] at hz1
  have hb2 : Below w1.heap.size w1 w2 := by rw [hw2]; exact (kept_setRowT (w1.alloc (.cells zc 42)) MB cx).out (ba (br w1) _) (ba (br w1) _).size (fun k hk' e => by omega)
  have hm2 : w2.heap[MB]? = some (.cells cx 42 (0, 0)) := by rw [hw2]; exact setRow_heap _ _ _ _ _ _ hz1
  have HN := Lib.hid (And.intro hz1 hMB)
  have H2 := Lib.hid (And.intro hgot (And.intro hb1 (And.intro hb2 (And.intro hm2 hok))))
  have HW2 := Lib.hid hw2
  clear hg1 hgot hb1 hcx hok hMB hw2 hz1 hb2 hm2 HHD HW
  go_upto_region 2 with (first
    | (refine wpList_store_row rfl 42 (.tmp 4) (.tmp 10) rfl MB cx (by rw [HN.out.2]; rfl) rfl 42 _ HN.out.1 HCX.out.2.1 HCX.out.2.2.1 HCX.out.2.2.2 ?_)
    | fail)
  rw [← HN.out.2, ← HW2.out]
  clear hz HW2
  have hbw2 : Below w.heap.size w w2 := bt H0.out.2.2.2.2.1 (bt H2.out.2.1 H2.out.2.2.1)
  have hor2 := H0.out.1.below hbw2
  have c1 := hor2.cZ
  have HAl := Lib.hid (hzAll_any Z O.H VH w2 hor2.hz H0.out.2.1.hz.o (H0.out.2.2.1.below hbw2 H0.out.2.2.1.lt))
  have HSf := Lib.hid (fun w' (hb : Below w2.heap.size w2 w') => hzSafe_any Z O.H VH w' ((hor2.below hb).hz) H0.out.2.1.hz.o ((H0.out.2.2.1.below hbw2 H0.out.2.2.1.lt).below hb (by
    have := H0.out.2.2.1.lt
    have := hbw2.size
    omega)))
  have HC1 := Lib.hid (fun w' (hb : Below w2.heap.size w2 w') => (hor2.below hb).cZ)
  have hmb3 : ∀ w', Below w2.heap.size w2 w' → w'.cell? ⟨MB, 3, none⟩ = some (.int .i64 mv.service) := fun w' hb => by
    have := (hb.block _ (Array.getElem?_eq_some_iff.1 H2.out.2.2.2.1).1).trans H2.out.2.2.2.1
    rw [cell_of_row _ _ 3 _ _ _ this, HCX.out.1]
    rfl
  have HM3 := Lib.hid hmb3
  have H3 := Lib.hid (And.intro hbw2 hor2)
  clear hbw2 hor2 hmb3
  go_wp2_with fail
  refine HAl.out.mono ?_
  rintro e w3 ⟨rfl, hb3⟩
  have HB3 := Lib.hid hb3
  have m3 := HM3.out w3 hb3
  have c13 := HC1.out w3 hb3
  have HS3 := Lib.hid (HSf.out w3 hb3)
  obtain ⟨al, hal⟩ : ∃ x, x = O.H.all := ⟨_, rfl⟩
  obtain ⟨sf, hsf⟩ : ∃ x, x = O.H.safe := ⟨_, rfl⟩
  obtain ⟨sv, hsv⟩ : ∃ x, x = mv.service := ⟨_, rfl⟩
  obtain ⟨mk, hmk⟩ : ∃ x, x = O.mark mv.service := ⟨_, rfl⟩
  have HMK := Lib.hid (show (sv = 2 → mk = sf) ∧ (sv ≠ 2 → mk = al) ∧ mk = O.mark mv.service from by
    rw [hmk, hal, hsf, hsv]
    unfold PO.mark
    exact ⟨fun e => if_pos e, fun e => if_neg e, rfl⟩)
  rw [← hal]
  rw [← hsf] at HS3
  rw [← hsv] at m3
  clear hal hsf hsv hmk hb3 HAl HSf HC1 c1
  go_upto_if 19 with (fail)
  go_cut [6] (fun s6 wx => s6 = .int .u64 (mk : Int) ∧ Hid (Below w2.heap.size w2 wx))
  case first =>
    by_cases h2 : sv = 2
    · have hb : (sv == 2) = true := by simpa using h2
      have hmk := HMK.out.1 h2
      subst hmk
      clear h2
      go_wp2_with fail
      refine HS3.out.mono ?_
      rintro e w4 ⟨rfl, hb4⟩
      have HE := Lib.hid (bt HB3.out hb4)
      clear hb4 HS3
      go_wp2_with fail
      go_meet
      exact ⟨rfl, HE⟩
    · have hb : (sv == 2) = false := by simpa using h2
      have hmk := HMK.out.2.1 h2
      subst hmk
      clear h2
      go_wp2_with fail
      go_meet
      exact ⟨rfl, HB3⟩
  case rest =>
  obtain ⟨rfl, HB4⟩ := hcut
  obtain ⟨w4, rfl⟩ : ∃ z, z = wc := ⟨_, rfl⟩
  clear HB3 HS3 m3 c13
  have hm4 : w4.heap[MB]? = some (.cells cx 42 (0, 0)) := (HB4.out.block _ (Array.getElem?_eq_some_iff.1 H2.out.2.2.2.1).1).trans H2.out.2.2.2.1
  have m2 : w4.cell? ⟨MB, 2, none⟩ = some (.int .u64 (mv.stamp : Int)) := by rw [cell_of_row _ _ 2 _ _ _ hm4, HCX.out.1]; rfl
  have hbw4 : Below w.heap.size w w4 := bt H3.out.1 HB4.out
  have hb24 : Below wa.heap.size wa w4 := bt H2.out.2.1 (bt H2.out.2.2.1 HB4.out)
  have hr4 : w4.heap[RB]? = some (.cells zc 42 (0, 0)) := (hb24.block _ (Array.getElem?_eq_some_iff.1 H0.out.2.2.2.1).1).trans H0.out.2.2.2.1
  have H4 := Lib.hid (And.intro hm4 (And.intro hbw4 hr4))
  obtain ⟨st, hst⟩ : ∃ x, x = mv.stamp := ⟨_, rfl⟩
  rw [← hst] at m2
  have HST := Lib.hid hst
  clear hm4 hbw4 hb24 hr4 hst
  obtain ⟨no, hno⟩ : ∃ b : Bool, b = (!ok || decide (mk < st)) := ⟨_, rfl⟩
  have HNO := Lib.hid hno
  clear hno
  go_upto_region 5 with (fail)
  go_cut [32] (fun s32 wx => s32 = .bool no ∧ wx = w4)
  case first =>
    cases ok
    · have e : no = true := by rw [HNO.out]; rfl
      subst e
      go_wp2_with fail
      go_meet
      exact ⟨rfl, rfl⟩
    · have e : no = decide (mk < st) := by rw [HNO.out]; rfl
      by_cases hlt : mk < st
      · have d1 : decide (mk < st) = true := by simpa using hlt
        have d2 : decide ((mk : Int) < (st : Int)) = true := by simp; omega
        rw [d1] at e
        subst e
        clear hlt
        go_wp2_with fail
        go_meet
        exact ⟨rfl, rfl⟩
      · have d1 : decide (mk < st) = false := by simpa using hlt
        have d2 : decide ((mk : Int) < (st : Int)) = false := by simp; omega
        rw [d1] at e
        subst e
        clear hlt
        go_wp2_with fail
        go_meet
        exact ⟨rfl, rfl⟩
  case rest =>
  obtain ⟨rfl, rfl⟩ := hcut
  clear m2
  have HRP := Lib.hid (show (no = true → O.ripe = none) ∧ (no = false → ∃ m, O.head = some m ∧ core mv = core m ∧ O.ripe = some m) from by
    have h1 := HNO.out
    have h2 := H2.out.2.2.2.2
    have h3 := H2.out.1
    have h4 := HMK.out.2.2
    have h5 := HST.out
    unfold PO.ripe
    cases hh : O.head with
    | none =>
      rw [hh] at h2
      refine ⟨fun _ => rfl, fun e => ?_⟩
      rw [h1, h2] at e
      cases e
    | some m =>
      rw [hh] at h2 h3
      have hc := h3.2.1 m rfl
      have hce := core_iff.1 hc
      have e1 : O.mark m.service = mk := by rw [h4, hce.2.2.2.1]
      have e2 : m.stamp = st := by rw [h5, hce.2.2.1]
      simp only
      rw [e1, e2]
      have e3 : no = decide (mk < st) := by rw [h1, h2]; rfl
      refine ⟨fun e => ?_, fun e => ⟨m, rfl, hc, ?_⟩⟩
      · rw [e] at e3
        rw [if_pos (of_decide_eq_true e3.symm)]
      · rw [e] at e3
        rw [if_neg (of_decide_eq_false e3.symm)])
  cases no
  rotate_left
  · have hrp := HRP.out.1 rfl
    obtain ⟨w6, hw6⟩ : ∃ w6, w6 = wc.setRow RB zc := ⟨_, rfl⟩
    have hks : Kept (fun b => b = RB) wc w6 := by rw [hw6]; exact kept_setRowT _ _ _
    have HF := Lib.hid (show w6.heap[RB]? = some (.cells zc 42 (0, 0)) ∧ NextEnd w B D Z V VH O (.returned (.tuple #[.agg zc, .bool false])) w6 from by
      have hb6 : Below w.heap.size w w6 := hks.out H4.out.2.1 H4.out.2.1.size (fun k hk' e => by
        have h1 := H0.out.2.2.2.2.2
        omega)
      refine ⟨by rw [hw6]; exact setRow_heap _ _ _ _ _ _ H4.out.2.2, ?_⟩
      unfold NextEnd PO.next
      rw [hrp, HZC.out]
      exact ⟨rfl, OrTo.below H0.out.1 hb6⟩)
    have HZB := Lib.hid (show Tryd.prog.built 42 [] = some zc from by rw [HZC.out]; exact bld0)
    have HZA := Lib.hid (show (Tryd.prog.info? 42).map (·.size) = some zc.size ∧ zc.all (·.oneCell') = true from by rw [HZC.out]; exact ⟨szM, enM_all zeroM⟩)
    have HW6 := Lib.hid hw6
    clear hw6 hks hrp HRP
    go_wp2_with (first
      | (refine wpList_buildT rfl 42 #[] rfl zc (by simp only [List.map_toArray, List.map_nil]; exact HZB.out) ?_)
      | (refine wpList_store_row rfl 42 (.tmp 2) (.tmp 33) rfl RB zc rfl rfl 42 _ H4.out.2.2 HZA.out.1 rfl HZA.out.2 ?_)
      | fail)
    rw [← HW6.out]
    refine bodyPost_ret (results_cell_two Tryd.results34 _ _ RB 42 zc (0, 0) _ (.bool false) rfl rfl HF.out.1 Tryd.underlying42 rfl HZA.out.1) rfl HF.out.2
  obtain ⟨m, hh, hc, hrp⟩ := HRP.out.2 rfl
  obtain ⟨w5, rfl⟩ : ∃ z, z = wc := ⟨_, rfl⟩
  obtain ⟨hf1, hf2⟩ := head_frm H0.out.2.1 hh
  have hce := core_iff.1 hc
  obtain ⟨q, hq⟩ : ∃ q, q = m.frm.toNat := ⟨_, rfl⟩
  rw [← hq] at hf1 hf2
  have hor5 : OrAt w5 B D Z O V VH := H0.out.1.below H4.out.2.1
  have m0 : ∀ y : Bel w5, y.val.cell? ⟨MB, 0, none⟩ = some (.int .i64 (q : Int)) := Bel.cell (by rw [cell_of_row _ _ 0 _ _ _ H4.out.1, HCX.out.1, ← hf1, ← hce.1]; rfl) (Array.getElem?_eq_some_iff.1 H4.out.1).1
  have d0 : ∀ y : Bel w5, y.val.cell? ⟨B, 4 + q, none⟩ = some (.int .u32 (O.dn q : Int)) := Bel.cell (hor5.cdn hf2) hor5.lt
  have hw32 : IntKind.u32.wrap ((O.dn q : Int) + 1) = ((O.dn q + 1 : Nat) : Int) := by
    have := H0.out.2.1.dnB q hf2
    rw [wrap_u32']
    omega
  have hq64 : (q : Int) < 64 := by omega
  have H5 := Lib.hid (And.intro hor5 (And.intro hf1 (And.intro hf2 (And.intro hce (And.intro hq (And.intro hc hrp))))))
  obtain ⟨d1, hd1⟩ : ∃ d : Nat, d = O.dn q := ⟨_, rfl⟩
  rw [← hd1] at d0 hw32
  have HD1 := Lib.hid hd1
  clear hf1 hf2 hce hor5 hq hc hrp hh hd1 HRP HNO
  go_upto_region 7 with (fail)
  go_cut [] (fun wx => Hid (∃ W, Below w5.heap.size w5 W ∧ wx = W.setCell ⟨B, 4 + q, none⟩ (.int .u32 ((d1 + 1 : Nat) : Int))))
  case first =>
    refine wp_region_bel_tail 10 (by kernel_rfl) (by kernel_rfl) ?_
    simp only [List.take_succ_cons, List.take_zero, List.drop_succ_cons, List.drop_zero]
    repeat (go_big_quiet_step ((fail)))
    refine wpQuiet_nil ?_
    intro w6 hw6
    have HB6 := Lib.hid (bel_out hw6)
    have f6 : w6.frozen? ⟨B, 4 + q, none⟩ = false := (H5.out.1.below HB6.out).free _
    have g6 : w6.cell? ⟨B, 4 + q, none⟩ = some (.int .u32 (d1 : Int)) := d0 ⟨w6, HB6.out⟩
    clear hw6 m0 d0
    go_wp2_with (simp only [hw32])
    go_meet
    exact ⟨w6, HB6.out, rfl⟩
  case rest =>
  obtain ⟨W, hbW, hwc⟩ := hcut.out
  obtain ⟨w6, rfl⟩ : ∃ z, z = wc := ⟨_, rfl⟩
  clear hcut m0 d0 hw32
  have hBw : B < w.heap.size := H0.out.1.lt
  have hMw1 : MB = w1.heap.size := HN.out.2
  have hRw : RB = w.heap.size := H0.out.2.2.2.2.2
  have hsa : w.heap.size < wa.heap.size := (Array.getElem?_eq_some_iff.1 H0.out.2.2.2.1).1 |> fun h => by rw [← hRw]; exact h
  have hs1 := H2.out.2.1.size
  have hBM : B ≠ MB := by omega
  have hBR : B ≠ RB := by omega
  have hRM : RB ≠ MB := by omega
  have h6 : OrAt w6 B D Z (O.setDn q (d1 + 1)) V VH := by
    rw [hwc]
    exact (H5.out.1.below hbW).set (orC_dn O D Z H5.out.2.2.1 (d1 + 1)) rfl rfl rfl
  have hk6 : Kept (fun b => b = B ∨ b = RB) w5 w6 := by
    rw [hwc]
    exact (Kept.of_below hbW).trans ((kept_set W B _ _).more fun _ _ e => .inl e)
  have hm6 : w6.heap[MB]? = some (.cells cx 42 (0, 0)) := hk6.keep H4.out.1 (fun e => by rcases e with e | e <;> omega)
  have hr6 : w6.heap[RB]? = some (.cells zc 42 (0, 0)) := by
    rw [hwc]
    exact (kept_set W B _ _).keep ((hbW.block _ (Array.getElem?_eq_some_iff.1 H4.out.2.2).1).trans H4.out.2.2) (fun e => hBR e.symm)
  have HOf := Lib.hid (show Calls Tryd.prog 14 #[.agg cx] w6 fun e w' => e = .returned (.agg #[.int .u64 (mv.stamp : Int), .int .i64 mv.frm]) ∧ Below w6.heap.size w6 w' from by
    rw [HCX.out.1]
    exact kOf_any mv w6)
  have HSZ := Lib.hid (And.intro hBw (And.intro hRw (And.intro hMw1 (And.intro hsa (And.intro hs1 (And.intro hBM (And.intro hBR hRM)))))))
  have H6 := Lib.hid (And.intro h6 (And.intro hk6 (And.intro hm6 hr6)))
  clear hwc hbW h6 hk6 hm6 hr6 hBw hMw1 hRw hsa hs1 hBM hBR hRM
  go_wp2_with (first
    | (with_reducible refine wpList_load_row rfl 42 (.tmp 4) rfl MB rfl 42 cx (0, 0) _ H6.out.2.2.1 Tryd.underlying42 rfl HCX.out.2.1 ?_)
    | fail)
  refine HOf.out.mono ?_
  rintro e w7 ⟨rfl, hb7⟩
  have h7 := H6.out.1.below hb7
  have hm7 := (hb7.block _ (Array.getElem?_eq_some_iff.1 H6.out.2.2.1).1).trans H6.out.2.2.1
  have hr7 := (hb7.block _ (Array.getElem?_eq_some_iff.1 H6.out.2.2.2).1).trans H6.out.2.2.2
  obtain ⟨kc, hkc⟩ : ∃ kc : Array Value, kc = #[.int .u64 (mv.stamp : Int), .int .i64 mv.frm] := ⟨_, rfl⟩
  rw [← hkc]
  obtain ⟨w8, hw8⟩ : ∃ w8, w8 = w7.setCells B 68 kc.toList := ⟨_, rfl⟩
  have hw8' : w8 = (w7.setCell ⟨B, 68, none⟩ (.int .u64 (mv.stamp : Int))).setCell ⟨B, 69, none⟩ (.int .i64 mv.frm) := by rw [hw8, hkc]; rfl
  have hk8 : Kept (fun b => b = B ∨ b = RB) w5 w8 := by
    rw [hw8']
    exact (H6.out.2.1.trans (Kept.of_below hb7)).trans (((kept_set w7 B _ _).trans (kept_set _ B _ _)).more fun _ _ e => .inl e)
  have hk78 : Kept (fun b => b = B) w7 w8 := by rw [hw8']; exact (kept_set w7 B _ _).trans (kept_set _ B _ _)
  have h8 : OrAt w8 B D Z (O.took m) V VH := by
    rw [hw8']
    have ha := h7.set (orC_ls (O.setDn q (d1 + 1)) D Z mv.stamp) rfl rfl rfl
    have hb := ha.set (orC_lf { O.setDn q (d1 + 1) with ls := mv.stamp } D Z mv.frm) rfl rfl rfl
    have e : ({ ({ O.setDn q (d1 + 1) with ls := mv.stamp } : PO) with lf := mv.frm } : PO) = O.took m := by
      have hce := H5.out.2.2.2.1
      unfold PO.took PO.setDn
      rw [← H5.out.2.2.2.2.1, HD1.out, hce.1, hce.2.2.1]
    rw [e] at hb
    exact hb
  have hm8 := hk78.keep hm7 (fun e => HSZ.out.2.2.2.2.2.1 e.symm)
  have hr8 := hk78.keep hr7 (fun e => HSZ.out.2.2.2.2.2.2.1 e.symm)
  have hth : w7.there B 68 kc.size := by
    rw [hkc]
    intro i hi
    have hi : i < 2 := hi
    refine ⟨?_, h7.free _⟩
    rw [h7.cell (by omega)]
    rfl
  have HKC := Lib.hid (show (Tryd.prog.info? 38).map (·.size) = some kc.size ∧ kc.all (·.oneCell') = true ∧ w7.there B 68 kc.size from by
    refine ⟨by rw [hkc]; kernel_rfl, by rw [hkc]; simp [Value.oneCell'], hth⟩)
  obtain ⟨w9, hw9⟩ : ∃ w9, w9 = w8.setRow RB cx := ⟨_, rfl⟩
  have hk9 : Kept (fun b => b = RB) w8 w9 := by rw [hw9]; exact kept_setRowT _ _ _
  have HF := Lib.hid (show w9.heap[RB]? = some (.cells cx 42 (0, 0)) ∧ NextEnd w B D Z V VH O (.returned (.tuple #[.agg cx, .bool true])) w9 from by
    obtain ⟨z1, z2, z3, z4, z5, z6, z7, z8⟩ := HSZ.out
    have hk19 : Kept (fun b => b = B ∨ b = RB) w1 w9 := ((Kept.of_below (bt H2.out.2.2.1 HB4.out)).trans hk8).trans (hk9.more fun _ _ e => .inr e)
    have hkw9 : Kept (fun b => b = B ∨ b = RB) w w9 := ((Kept.of_below H4.out.2.1).trans hk8).trans (hk9.more fun _ _ e => .inr e)
    refine ⟨by rw [hw9]; exact setRow_heap _ _ _ _ _ _ hr8, ?_⟩
    unfold NextEnd PO.next
    rw [H5.out.2.2.2.2.2.2]
    have hg := (H2.out.1.kept hk19 (fun ad h1 h2 e => by
      have := H2.out.1.2.2.2.1 ad h1 h2
      rcases e with e | e <;> omega)).more (B' := w.heap.size) (by omega)
    refine ⟨⟨mv, by rw [HCX.out.1], H5.out.2.2.2.2.2.1, hg.2.2.1, hg.2.2.2.1, hg.2.2.2.2⟩, hkw9.more fun b hb e => ?_, V, VH, h8.kept hk9 (fun b hb e => ?_) (fun b e cs fr hc => ?_), newV_refl w V, newV_refl w VH⟩
    · rcases e with e | e
      · exact .inl e
      · omega
    · have := H0.out.1.sz hb
      omega
    · subst e
      rw [hr8] at hc
      injection hc with hc
      injection hc with _ hc _
      exact absurd hc (by decide))
  have HW8 := Lib.hid (And.intro hw8 hw9)
  have H8 := Lib.hid (And.intro hm8 hr8)
  clear h7 hm7 hr7 hkc hw8 hw8' hk8 hk78 h8 hm8 hr8 hth hw9 hk9 hb7
  go_upto_region 9 with (first
    | (with_reducible refine wpList_store_mid rfl 38 (.tmp 49) (.tmp 47) rfl B 68 kc rfl rfl HKC.out.2.2 HKC.out.1 HKC.out.2.1 ?_)
    | fail)
  rw [← HW8.out.1]
  go_wp2_with (first
    | (with_reducible refine wpList_load_row rfl 42 (.tmp 4) rfl MB rfl 42 cx (0, 0) _ H8.out.1 Tryd.underlying42 rfl HCX.out.2.1 ?_)
    | (with_reducible refine wpList_store_row rfl 42 (.tmp 2) (.tmp 50) rfl RB cx rfl rfl 42 _ H8.out.2 HCX.out.2.1 HCX.out.2.2.1 HCX.out.2.2.2 ?_)
    | fail)
  rw [← HW8.out.2]
  refine bodyPost_ret (results_cell_two Tryd.results34 _ _ RB 42 cx (0, 0) _ (.bool true) rfl rfl HF.out.1 Tryd.underlying42 rfl HCX.out.2.1) rfl HF.out.2
end Go.Proofs.YtgjlcjbmcnofiaaDoor
