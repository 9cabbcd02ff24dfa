/-
  An order's New, Trim, Take.
  Conditions: those that each theorem names.
-/
import Derived.Test.YtgjlcjbmcnofiaaDoorOrdA
import Derived.Test.YtgjlcjbmcnofiaaDoorDels
namespace Go.Proofs.YtgjlcjbmcnofiaaDoor
set_option linter.unusedVariables false
set_option linter.unusedSimpArgs false
open Go.RowKit
/-- a new order -/
def po0 (me : Int) (m : Nat) : PO := ⟨me, withS m me, lo0, R0, hz0 (butS m (oneS me)), fun _ => 0, 0, 0⟩
def NewOr (w : World) (O : PO) (e : Ending) (w' : World) : Prop := ∃ B D Z, e = .returned (.pointer (some ⟨B, 0, none⟩)) ∧ (∀ b, orS B D Z nilV nilV b → w.heap.size ≤ b) ∧ OrAt w' B D Z O nilV nilV ∧ Below w.heap.size w w'
set_option maxRecDepth 100000 in
set_option maxHeartbeats 4000000 in
theorem orNew_any (me : Int) (m : Nat) (w : World) (hm : m < 18446744073709551616) : Calls Tryd.prog 16 #[.int .i64 me, .int .u64 (m : Int)] w (NewOr w (po0 me m)) := by
  have HH := Lib.hid (hNew_any w)
  have HZ := Lib.hid (fun w' => hzNew_any me m w' hm)
  have HWi := Lib.hid (fun (W : World) => show Calls Tryd.prog 46 #[.int .u64 (m : Int), .slice (some ⟨W.heap.size, 0, none⟩) 1 1] (W.alloc (.cells #[.int .i64 me] 3)) fun e w' => e = .returned (.int .u64 (withS m me : Int)) ∧ W.alloc (.cells #[.int .i64 me] 3) = w' from by
    have := setWith_any m [me] (some ⟨W.heap.size, 0, none⟩) 1 hm (W.alloc (.cells #[.int .i64 me] 3)) (by simp) (by
      have := reads_one W (.int .i64 me) 3
      simpa [intsL] using this)
    have e : withAll m [me] = withS m me := by simp [withAll]
    rw [e] at this
    exact this)
  have HB := Lib.hid (show ∀ D Z : Nat, Tryd.prog.built 60 [(0, .pointer (some ⟨D, 0, none⟩)), (1, .pointer (some ⟨Z, 0, none⟩)), (2, .int .i64 me), (3, .int .u64 (withS m me : Int))] = some (orC (po0 me m) D Z) from fun D Z => by kernel_rfl)
  have HP := Lib.hid (show (po0 me m).lo = (fun _ => 0) ∧ (po0 me m).R = (fun _ => []) ∧ (po0 me m).H = hz0 (butS m (oneS me)) from ⟨rfl, rfl, rfl⟩)
  obtain ⟨O, hO⟩ : ∃ O, O = po0 me m := ⟨_, rfl⟩
  obtain ⟨mb, hmb⟩ : ∃ x, x = withS m me := ⟨_, rfl⟩
  obtain ⟨o, ho⟩ : ∃ x, x = butS m (oneS me) := ⟨_, rfl⟩
  rw [← hO] at HB HP ⊢
  rw [← hmb] at HWi HB
  rw [← ho] at HZ HP
  clear hO hmb ho hm
  go_enter Tryd.func16, Tryd.ntmps16
  go_wp2_with fail
  refine HH.out.mono ?_
  rintro e w1 ⟨rfl, h1, hb1⟩
  have H1 := Lib.hid (And.intro h1 hb1)
  have hs1 : w.heap.size < w1.heap.size := h1.lt
  obtain ⟨D, hD⟩ : ∃ D, D = w.heap.size := ⟨_, rfl⟩
  rw [← hD] at H1 ⊢
  have HD := Lib.hid (And.intro hD hs1)
  clear h1 hb1 HH hD hs1
  go_wp2_with fail
  refine (HZ.out w1).mono ?_
  rintro e w2 ⟨Z, rfl, hZ, h2, hb2⟩
  have H2 := Lib.hid (And.intro hZ (And.intro h2 hb2))
  clear hZ h2 hb2 HZ
  go_wp2_with fail
  refine (HWi.out w2).mono ?_
  rintro e w3 ⟨rfl, rfl⟩
  obtain ⟨cz, hcz⟩ : ∃ cz, cz = orC O D Z := ⟨_, rfl⟩
  have HBD := Lib.hid (HB.out D Z)
  rw [← hcz] at HBD
  have HE := Lib.hid (show ∀ w4, w4 = w2.alloc (.cells #[.int .i64 me] 3) → NewOr w O (.returned (.pointer (some ⟨w4.heap.size, 0, none⟩))) (w4.alloc (.cells cz 60)) from fun w4 e4 => by
    have hb4 : Below w2.heap.size w2 w4 := by rw [e4]; exact ba (br w2) _
    have hb5 := ba (br w4) (.cells cz 60)
    have hb25 := bt hb4 hb5
    have hd := (H1.out.1.below H2.out.2.2).below hb25
    have hz := H2.out.2.1.below hb25
    have s1 := HD.out.2
    have s2 := H2.out.2.2.size
    have s4 := hb4.size
    have sD := HD.out.1
    have sZ := H2.out.1
    refine ⟨w4.heap.size, D, Z, rfl, fun b hb => ?_, ⟨by rw [hcz]; exact heap_alloc_new w4 _, by rw [HP.out.1, HP.out.2.1]; exact hd, by rw [HP.out.2.2]; exact hz, fun b hb e => ?_⟩, bt (bt (by have := H1.out.2; rw [sD] at this; exact this) H2.out.2.2) hb25⟩
    · rcases hb with rfl | (rfl | ⟨p, hp, hb⟩) | (rfl | ⟨p, hp, hb⟩)
      · omega
      · omega
      · cases hb
      · omega
      · cases hb
    · rcases hb with rfl | ⟨p, hp, hb⟩
      · rcases e with e | ⟨p, hp, e⟩
        · omega
        · cases e
      · cases hb)
  obtain ⟨w4, hw4⟩ : ∃ w4, w4 = w2.alloc (.cells #[.int .i64 me] 3) := ⟨_, rfl⟩
  have HF := Lib.hid (HE.out w4 hw4)
  rw [← hw4]
  clear hw4 HE HB H1 H2 HD HWi hcz HP
  go_wp2_with (first | (refine wpList_buildT rfl 60 #[(0, .tmp 5), (1, .tmp 8), (2, .tmp 9), (3, .tmp 13)] rfl cz (by simp only [List.map_toArray, List.map_cons, List.map_nil]; exact HBD.out) ?_) | fail)
  go_ret
  exact HF.out
/-- the first ones of a process are dropped -/
def PO.trim (O : PO) (p : Int) (upto : Nat) : PO := { O with lo := dropLo O.lo O.R p (min upto (doneZ O p)), R := dropR O.lo O.R p (min upto (doneZ O p)) }
set_option maxRecDepth 100000 in
set_option maxHeartbeats 4000000 in
theorem orTrim_any {w : World} {B D Z : Nat} {O : PO} {V VH : Nat → Value} (p : Int) (upto : Nat) (h : OrAt w B D Z O V VH) (hk : OrOk O) (hu : upto < 4294967296) :
    Calls Tryd.prog 21 #[.pointer (some ⟨B, 0, none⟩), .int .i64 p, .int .u32 (upto : Int)] w fun e w' => e = .returned (.tuple #[]) ∧ OrTo w B D Z V VH (O.trim p upto) w' := by
  have hS0 : w.drew.cell? ⟨B, 0, none⟩ = some (.pointer (some ⟨D, 0, none⟩)) := (h.below ((br w).drew)).cD
  have HDn := Lib.hid (show ∀ w', Below w.heap.size w w' → Calls Tryd.prog 30 #[.pointer (some ⟨B, 0, none⟩), .int .i64 p] w' fun e w'' => e = .returned (.int .u32 (doneZ O p : Int)) ∧ w' = w'' from fun w' hb => orDone_any p (h.below hb))
  have HDr := Lib.hid (show ∀ w', Below w.heap.size w w' → Calls Tryd.prog 51 #[.pointer (some ⟨D, 0, none⟩), .int .i64 p, .int .u32 ((min upto (doneZ O p) : Nat) : Int)] w' fun e w'' => e = .returned (.tuple #[]) ∧ OrTo w B D Z V VH (O.trim p upto) w'' from fun w' hb =>
    (hDrop_any D O.lo O.R V p (min upto (doneZ O p)) w' (h.below hb).hold hk.bd (by omega)).mono fun e w'' ⟨h1, ⟨V', h2, h3⟩, h4⟩ => ⟨h1, OrTo.trans (Kept.of_below hb) (newV_refl w V) (newV_refl w VH) ((h.below hb).stepHold h4 h2 h3)⟩)
  obtain ⟨d, hd⟩ : ∃ d, d = doneZ O p := ⟨_, rfl⟩
  rw [← hd] at HDn HDr
  have hb0 := (br w).drew
  clear h hk hd
  go_enter Tryd.func21, Tryd.ntmps21
  refine wp_region_mask (fun w' => w'.cell? ⟨B, 0, none⟩ = some (.pointer (some ⟨D, 0, none⟩))) 10 3 [true, true, true, true, true, true, true, true, false, false, false] #[true, true, true, true, true, true, true, true, false, false, false] (by kernel_rfl) (by kernel_rfl) (by kernel_rfl) hS0 ?_
  have HB0 := Lib.hid hb0
  have HS0 := Lib.hid hS0
  clear hS0 hb0
  generalize w.drew = W at *
  iterate 8
    refine wpMask_take _ (Or.inl ⟨by rfl, fun w' hS => by (try dsimp only at hS); go_simp; try with_reducible rfl⟩) ?_
    simp only [Act.put, List.setIfInBounds_toArray, List.set_cons_zero, List.set_cons_succ]
  refine wpMask_skip (wpMask_skip (wpMask_skip (wpMask_nil ?_)))
  refine wpAnyS_ready (rs := [8]) (by kernel_rfl) (by simp) ?_
  refine AllReadyS.cons rfl (fun K hK => ?_) AllReadyS.nil
  go_simp
  refine (HDn.out W HB0.out).mono ?_
  rintro e w3 ⟨rfl, rfl⟩
  refine hK.out _ _ (fun h => HS0.out) ?_
  clear hK K
  simp only [Act.put, List.getElem_toArray, List.getElem_cons_succ, List.getElem_cons_zero, List.setIfInBounds_toArray, List.set_cons_zero, List.set_cons_succ]
  refine wpAnyS_ready (rs := [9]) (by kernel_rfl) (by simp) ?_
  refine AllReadyS.cons rfl (fun K hK => ?_) AllReadyS.nil
  go_simp
  refine hK.out _ _ (fun h => HS0.out) ?_
  clear hK K
  simp only [Act.put, List.getElem_toArray, List.getElem_cons_succ, List.getElem_cons_zero, List.setIfInBounds_toArray, List.set_cons_zero, List.set_cons_succ]
  rw [min_if]
  refine wpAnyS_ready (rs := [10]) (by kernel_rfl) (by simp) ?_
  refine AllReadyS.cons rfl (fun K hK => ?_) AllReadyS.nil
  go_simp
  refine (HDr.out W HB0.out).mono ?_
  rintro e w3 ⟨rfl, hE⟩
  have HE := Lib.hid hE
  refine hK.out _ _ (fun h => absurd h (by decide)) ?_
  clear hK K hE
  simp only [Act.put, List.getElem_toArray, List.getElem_cons_succ, List.getElem_cons_zero, List.setIfInBounds_toArray, List.set_cons_zero, List.set_cons_succ]
  refine wpAnyS_done (by kernel_rfl) ?_ _
  go_wp2_with fail
  go_end0
  exact ⟨rfl, HE.out⟩
/-- a message is taken; m': it in memory of the order's own -/
def PO.take (O : PO) (m m' : Msg) : PO := { O with R := upd O.R m.frm.toNat (O.R m.frm.toNat ++ [m']), H := if m.frm = O.me then O.H.setC (max O.H.c m.stamp) else O.H.came m.frm m.seq m.stamp }
def takeZ (O : PO) (m : Msg) : Int := if hasS O.mb m.frm = true then putK O.lo O.R m else 5
/-- what Take leaves -/
def TakeEnd (w : World) (B D Z : Nat) (O : PO) (V VH : Nat → Value) (m : Msg) (e : Ending) (w' : World) : Prop :=
  e = .returned (.int .i64 (takeZ O m)) ∧ ((takeZ O m ≠ 0 ∧ OrTo w B D Z V VH O w') ∨ (takeZ O m = 0 ∧ ∃ m', core m' = core m ∧ OrTo w B D Z V VH (O.take m m') w'))
set_option maxRecDepth 100000 in
set_option maxHeartbeats 8000000 in
theorem orTake_any {w : World} {B D Z : Nat} {O : PO} {V VH : Nat → Value} (m : Msg) (h : OrAt w B D Z O V VH) (hk : OrOk O) (hok : MsgOk w m) (hds : m.ds.length ≤ 1000000) :
    Calls Tryd.prog 17 #[.pointer (some ⟨B, 0, none⟩), .agg (msgA m)] w (TakeEnd w B D Z O V VH m) := by
  obtain ⟨w1, hw1⟩ : ∃ w1, w1 = w.alloc (.cells (msgA m) 42) := ⟨_, rfl⟩
  have hb1 : Below w.heap.size w w1 := by rw [hw1]; exact ba (br w) _
  have hx1 : w1.heap[w.heap.size]? = some (.cells (msgA m) 42 (0, 0)) := by rw [hw1]; exact heap_alloc_new w _
  obtain ⟨X, hX⟩ : ∃ X, X = w.heap.size := ⟨_, rfl⟩
  rw [← hX] at hx1
  have hX1 : X < w1.heap.size := (Array.getElem?_eq_some_iff.1 hx1).1
  have h1 := h.below hb1
  have o3 : ∀ y : Bel w1, y.val.cell? ⟨B, 3, none⟩ = some (.int .u64 (O.mb : Int)) := Bel.cell h1.cmb h1.lt
  have x0 : ∀ y : Bel w1, y.val.cell? ⟨X, 0, none⟩ = some (.int .i64 m.frm) := Bel.cell (cell_of_row _ _ 0 _ _ _ hx1) hX1
  have HHas := Lib.hid (fun (W : World) => setHas_any O.mb m.frm hk.mb W)
  have HSZ := Lib.hid (show ∀ b, orS B D Z V VH b → b < w.heap.size from fun b hb => h.sz hb)
  have H1 := Lib.hid (And.intro hb1 (And.intro hx1 (And.intro h1 (And.intro hk (And.intro hok (And.intro hds hX))))))
  obtain ⟨mb, hmb⟩ : ∃ x, x = O.mb := ⟨_, rfl⟩
  obtain ⟨fr, hfr⟩ : ∃ x, x = m.frm := ⟨_, rfl⟩
  have HTZ := Lib.hid (show takeZ O m = if hasS mb fr = true then putK O.lo O.R m else 5 from by rw [hmb, hfr]; rfl)
  rw [← hmb] at o3 HHas
  rw [← hfr] at x0 HHas
  have HFR := Lib.hid hfr
  have HW1 := Lib.hid (And.intro hw1 hX)
  obtain ⟨cx, hcx⟩ : ∃ cx, cx = msgA m := ⟨_, rfl⟩
  have hcs : cx.size = 6 := by rw [hcx]; rfl
  have hca : cx.all (·.oneCell') = true := by rw [hcx]; exact enM_all m
  rw [← hcx] at HW1 ⊢
  have HCX := Lib.hid (And.intro hcx (And.intro hcs hca))
  clear hw1 hb1 hx1 hX hX1 h1 h hk hok hds hmb hfr hcx hcs hca
  go_enter Tryd.func17, Tryd.ntmps17
  go_upto_region 1 with (fail)
  rw [← HW1.out.1, ← HW1.out.2]
  obtain ⟨me, hme⟩ : ∃ x, x = O.me := ⟨_, rfl⟩
  obtain ⟨pk, hpk⟩ : ∃ x, x = putK O.lo O.R m := ⟨_, rfl⟩
  have HME := Lib.hid (And.intro hme hpk)
  clear hme hpk
  go_cut [13] (fun s13 wx => s13 = .bool (!hasS mb fr) ∧ Hid (Below w1.heap.size w1 wx))
  case first =>
    refine wp_region_bel (by kernel_rfl) (by kernel_rfl) ?_
    repeat (go_big_quiet_step ((go_at_call 47; with_reducible exact bel_same (HHas.out _))))
    refine wpQuiet_nil ?_
    intro w2 hw2
    have HB2 := Lib.hid (bel_out hw2)
    clear hw2 o3 x0
    go_wp2_with fail
    go_meet
    exact ⟨rfl, HB2⟩
  case rest =>
  obtain ⟨rfl, HB2⟩ := hcut
  obtain ⟨w2, rfl⟩ : ∃ z, z = wc := ⟨_, rfl⟩
  clear o3 x0 HHas
  by_cases hh : hasS mb fr = true
  rotate_left
  · have hh : hasS mb fr = false := by simpa using hh
    have HE := Lib.hid (show TakeEnd w B D Z O V VH m (.returned (.int .i64 5)) w2 from by
      have : takeZ O m = 5 := by rw [HTZ.out, if_neg (by rw [hh]; decide)]
      unfold TakeEnd
      rw [this]
      exact ⟨rfl, .inl ⟨by decide, OrTo.trans (Kept.of_below (bt H1.out.1 HB2.out)) (newV_refl w V) (newV_refl w VH) (OrTo.same (H1.out.2.2.1.below HB2.out))⟩⟩)
    rw [hh]
    clear HTZ
    go_wp2_with fail
    go_ret
    exact HE.out
  rw [hh]
  have HTZ := Lib.hid (show takeZ O m = pk from by rw [HTZ.out, if_pos hh, HME.out.2])
  clear hh
  go_upto_region 3 with (fail)
  go_cut [5] (fun s5 wx => s5 = .int .i64 pk ∧ Hid (wx.heap[X]? = some (.cells cx 42 (0, 0)) ∧ ∃ R' V', (pk ≠ 0 → R' = O.R) ∧ (pk = 0 → ∃ m', core m' = core m ∧ R' = upd O.R fr.toNat (O.R fr.toNat ++ [m'])) ∧ OrAt wx B D Z { O with R := R' } V' VH ∧ Kept (orS B D Z V VH) w wx ∧ newV w V V'))
  case first =>
    have h3 : OrAt w2.drew B D Z O V VH := (H1.out.2.2.1.below HB2.out).below ((br w2).drew)
    have hx3 : w2.drew.heap[X]? = some (.cells cx 42 (0, 0)) := by
      rw [HCX.out.1]
      exact (HB2.out.block _ (Array.getElem?_eq_some_iff.1 H1.out.2.1).1).trans H1.out.2.1
    have hS0 : w2.drew.cell? ⟨B, 0, none⟩ = some (.pointer (some ⟨D, 0, none⟩)) ∧ w2.drew.rangeAt X 0 cx.toList := ⟨h3.cD, fun j u hu => by rw [Nat.zero_add]; exact (cell_of_row _ _ j _ _ _ hx3).trans (by simpa using hu)⟩
    have HP := Lib.hid (show Calls Tryd.prog 48 #[.pointer (some ⟨D, 0, none⟩), .agg cx] w2.drew fun e w' => e = .returned (.int .i64 pk) ∧ (w'.cell? ⟨B, 0, none⟩ = some (.pointer (some ⟨D, 0, none⟩)) ∧ w'.rangeAt X 0 cx.toList) ∧ Hid (w'.heap[X]? = some (.cells cx 42 (0, 0)) ∧ ∃ R' V', (pk ≠ 0 → R' = O.R) ∧ (pk = 0 → ∃ m', core m' = core m ∧ R' = upd O.R fr.toNat (O.R fr.toNat ++ [m'])) ∧ OrAt w' B D Z { O with R := R' } V' VH ∧ Kept (orS B D Z V VH) w w' ∧ newV w V V') from by
      have hbw : Below w.heap.size w w2.drew := bt H1.out.1 (HB2.out.drew)
      have hput := hPut_two D O.lo O.R V m w2.drew h3.hold H1.out.2.2.2.1.bd (H1.out.2.2.2.2.1.below hbw) H1.out.2.2.2.2.2.1
      rw [← HCX.out.1] at hput
      refine hput.mono fun e w' ⟨he, hk, V', hn, hor⟩ => ?_
      have hpk := HME.out.2
      rw [← hpk] at he hor
      have hXs : ¬ holdS D V X := fun e => by
        have := HSZ.out X (.inr (.inl e))
        have := H1.out.2.2.2.2.2.2
        omega
      have hx4 : w'.heap[X]? = some (.cells cx 42 (0, 0)) := hk.keep hx3 hXs
      obtain ⟨R', hR1, hR2, hH⟩ : ∃ R', (pk ≠ 0 → R' = O.R) ∧ (pk = 0 → ∃ m', core m' = core m ∧ R' = upd O.R fr.toNat (O.R fr.toNat ++ [m'])) ∧ HoldAt w' D O.lo R' V' := by
        rcases hor with ⟨h5, h6⟩ | ⟨h5, h6, h7, m', h8, h9⟩
        · exact ⟨O.R, fun _ => rfl, fun e => absurd e h5, h6⟩
        · exact ⟨_, fun e => absurd h5 e, fun _ => ⟨m', h8, by rw [HFR.out]⟩, h9⟩
      obtain ⟨k9, V9, VH9, h9, n9, m9⟩ := h3.stepHold hk hH hn
      have hor4 : OrAt w' B D Z { O with R := R' } V' VH := ⟨h9.blk, hH, h3.hz.kept hk (fun b hb e => h3.ap b e hb), fun b hb e => by
        rcases holdS_new hn hb with hb | hb
        · exact h3.ap b hb e
        · have := HSZ.out b (.inr (.inr e))
          have := hbw.size
          omega⟩
      exact ⟨he, ⟨hor4.cD, fun j u hu => by rw [Nat.zero_add]; exact (cell_of_row _ _ j _ _ _ hx4).trans (by simpa using hu)⟩, ⟨hx4, R', V', hR1, hR2, hor4, (Kept.of_below hbw).trans (hk.more fun b _ e => .inr (.inl e)), newV_below hn hbw.size⟩⟩)
    refine wp_region_mask (fun w' => w'.cell? ⟨B, 0, none⟩ = some (.pointer (some ⟨D, 0, none⟩)) ∧ w'.rangeAt X 0 cx.toList) 6 2 [true, true, true, true, true, false, false] #[true, true, true, true, true, false, false] (by kernel_rfl) (by kernel_rfl) (by kernel_rfl) hS0 ?_
    clear hS0 h3 hx3 HTZ
    have HSX := Lib.hid (show (Tryd.prog.info? 42).map (·.size) = some cx.toList.length from by rw [HCX.out.1]; exact szM)
    have hct : cx.toList.toArray = cx := by simp
    generalize w2.drew = W at *
    iterate 4
      refine wpMask_take _ (Or.inl ⟨by rfl, fun w' hS => by (try dsimp only at hS); obtain ⟨hS1, hS2⟩ := hS; clear hS2; go_simp; try with_reducible rfl⟩) ?_
      simp only [Act.put, List.setIfInBounds_toArray, List.set_cons_zero, List.set_cons_succ]
    refine wpMask_take _ (yieldsIf_load_mid (by rfl) 42 (.tmp 3) rfl X 0 rfl cx.toList _ (fun w' hS => hS.2) Tryd.underlying42 rfl HSX.out) ?_
    simp only [Act.put, List.setIfInBounds_toArray, List.set_cons_zero, List.set_cons_succ]
    rw [hct]
    clear hct
    refine wpMask_skip (wpMask_skip (wpMask_nil ?_))
    refine wpAnyS_ready (rs := [5]) (by kernel_rfl) (by simp) ?_
    refine AllReadyS.cons rfl (fun K hK => ?_) AllReadyS.nil
    go_simp
    refine HP.out.mono ?_
    rintro e w3 ⟨rfl, hS3, hE⟩
    have HE := Lib.hid hE
    refine hK.out _ _ (fun _ => hS3) ?_
    clear hK K hE hS3 HP HB2 HSX
    simp only [Act.put, List.getElem_toArray, List.getElem_cons_succ, List.getElem_cons_zero, List.setIfInBounds_toArray, List.set_cons_zero, List.set_cons_succ]
    refine wpAnyS_ready (rs := [6]) (by kernel_rfl) (by simp) ?_
    refine AllReadyS.cons rfl (fun K hK => ?_) AllReadyS.nil
    go_simp
    refine hK.out _ _ (fun h => absurd h (by decide)) ?_
    clear hK K
    simp only [Act.put, List.getElem_toArray, List.getElem_cons_succ, List.getElem_cons_zero, List.setIfInBounds_toArray, List.set_cons_zero, List.set_cons_succ]
    refine wpAnyS_done (by kernel_rfl) ?_ _
    go_wp2_with fail
    go_meet
    exact ⟨rfl, HE.out⟩
  case rest =>
  obtain ⟨rfl, HE⟩ := hcut
  obtain ⟨w3, rfl⟩ : ∃ z, z = wc := ⟨_, rfl⟩
  by_cases hpk : pk = 0
  rotate_left
  · have hb : (pk != 0) = true := by simpa using hpk
    have HF := Lib.hid (show TakeEnd w B D Z O V VH m (.returned (.int .i64 pk)) w3 from by
      obtain ⟨_, R', V', h1, h2, h3, h4, h5⟩ := HE.out
      rw [h1 hpk] at h3
      unfold TakeEnd
      rw [HTZ.out]
      exact ⟨rfl, .inl ⟨hpk, h4, V', VH, h3, h5, newV_refl w VH⟩⟩)
    clear HTZ HE
    go_wp2_with fail
    go_ret
    exact HF.out
  subst hpk
  obtain ⟨hx3, R', V', _, hR, hor, hkw, hnw⟩ := HE.out
  obtain ⟨m', hm', hR'⟩ := hR rfl
  have x0 : ∀ y : Bel w3, y.val.cell? ⟨X, 0, none⟩ = some (.int .i64 fr) := Bel.cell (by rw [cell_of_row _ _ 0 _ _ _ hx3, HCX.out.1, HFR.out]; rfl) (Array.getElem?_eq_some_iff.1 hx3).1
  have o2 : ∀ y : Bel w3, y.val.cell? ⟨B, 2, none⟩ = some (.int .i64 me) := Bel.cell (by rw [hor.cme, HME.out.1]) hor.lt
  have H3 := Lib.hid (And.intro hx3 (And.intro hor (And.intro hkw (And.intro hnw (And.intro hm' hR')))))
  clear hx3 hR hor hkw hnw hm' hR' HE
  go_upto_region 6 with (fail)
  go_cut [29] (fun s29 wx => s29 = .bool (fr == me) ∧ Hid (Below w3.heap.size w3 wx))
  case first =>
    refine wp_region_bel (by kernel_rfl) (by kernel_rfl) ?_
    repeat (go_big_quiet_step ((fail)))
    refine wpQuiet_nil ?_
    intro w4 hw4
    have HB4 := Lib.hid (bel_out hw4)
    clear hw4 o2 x0
    go_wp2_with fail
    go_meet
    exact ⟨rfl, HB4⟩
  case rest =>
  obtain ⟨rfl, HB4⟩ := hcut
  obtain ⟨w4, rfl⟩ : ∃ z, z = wc := ⟨_, rfl⟩
  have h4 : OrAt w4.drew B D Z { O with R := R' } V' VH := (H3.out.2.1.below HB4.out).below ((br w4).drew)
  have hx4 : w4.drew.heap[X]? = some (.cells (msgA m) 42 (0, 0)) := by
    have := (HB4.out.block _ (Array.getElem?_eq_some_iff.1 H3.out.1).1).trans H3.out.1
    rw [HCX.out.1] at this
    exact this
  have hb34 : Below w3.heap.size w3 w4.drew := HB4.out.drew
  have hkw4 : Kept (orS B D Z V VH) w w4.drew := H3.out.2.2.1.trans (Kept.of_below hb34)
  have HZF := Lib.hid (show ∀ (H' : HZ) e w', HzEnd w4.drew Z VH H' e w' → H' = (O.take m m').H → e = .returned (.tuple #[]) ∧ TakeEnd w B D Z O V VH m (.returned (.int .i64 0)) w' from fun H' e w' hz hH => by
    refine ⟨hz.1, ?_⟩
    unfold TakeEnd
    rw [HTZ.out]
    refine ⟨rfl, .inr ⟨rfl, m', H3.out.2.2.2.2.1, ?_⟩⟩
    have hst := h4.stepHzEnd hz
    have e : ({ ({ O with R := R' } : PO) with H := H' } : PO) = O.take m m' := by
      rw [hH, H3.out.2.2.2.2.2, HFR.out]
      rfl
    rw [e] at hst
    exact OrTo.trans hkw4 H3.out.2.2.2.1 (newV_refl w VH) hst)
  have s1 : w4.drew.cell? ⟨B, 1, none⟩ = some (.pointer (some ⟨Z, 0, none⟩)) := h4.cZ
  have s2 : w4.drew.cell? ⟨X, 0, none⟩ = some (.int .i64 m.frm) := cell_of_row _ _ 0 _ _ _ hx4
  have s3 : w4.drew.cell? ⟨X, 1, none⟩ = some (.int .u32 (m.seq : Int)) := cell_of_row _ _ 1 _ _ _ hx4
  have s4 : w4.drew.cell? ⟨X, 2, none⟩ = some (.int .u64 (m.stamp : Int)) := cell_of_row _ _ 2 _ _ _ hx4
  by_cases hfm : fr = me
  · have hb : (fr == me) = true := by simpa using hfm
    have HZE := Lib.hid (show Calls Tryd.prog 36 #[.pointer (some ⟨Z, 0, none⟩), .int .u64 (m.stamp : Int)] w4.drew fun e w' => e = .returned (.tuple #[]) ∧ TakeEnd w B D Z O V VH m (.returned (.int .i64 0)) w' from
      (hzSee_any Z O.H VH m.stamp w4.drew h4.hz).mono fun e w' hz => HZF.out _ e w' hz (by
        show _ = if m.frm = O.me then _ else _
        rw [if_pos (by rw [← HFR.out, ← HME.out.1]; exact hfm)]))
    have hS0 : w4.drew.cell? ⟨B, 1, none⟩ = some (.pointer (some ⟨Z, 0, none⟩)) ∧ w4.drew.cell? ⟨X, 2, none⟩ = some (.int .u64 (m.stamp : Int)) := ⟨s1, s4⟩
    clear h4 hx4 hb34 hkw4 s1 s2 s3 s4 hfm
    go_upto_region 7 with (fail)
    refine wp_region_mask (fun w' => w'.cell? ⟨B, 1, none⟩ = some (.pointer (some ⟨Z, 0, none⟩)) ∧ w'.cell? ⟨X, 2, none⟩ = some (.int .u64 (m.stamp : Int))) 6 1 [true, true, true, true, true, true, false] #[true, true, true, true, true, true, false] (by kernel_rfl) (by kernel_rfl) (by kernel_rfl) hS0 ?_
    clear hS0
    generalize w4.drew = W at *
    iterate 6
      refine wpMask_take _ (Or.inl ⟨by rfl, fun w' hS => by (try dsimp only at hS); obtain ⟨hS1, hS2⟩ := hS; go_simp; try with_reducible rfl⟩) ?_
      simp only [Act.put, List.setIfInBounds_toArray, List.set_cons_zero, List.set_cons_succ]
    refine wpMask_skip (wpMask_nil ?_)
    refine wpAnyS_ready (rs := [6]) (by kernel_rfl) (by simp) ?_
    refine AllReadyS.cons rfl (fun K hK => ?_) AllReadyS.nil
    go_simp
    refine HZE.out.mono ?_
    rintro e w5 ⟨rfl, hE⟩
    have HF := Lib.hid hE
    refine hK.out _ _ (fun h => absurd h (by decide)) ?_
    clear hK K hE HZE
    simp only [Act.put, List.getElem_toArray, List.getElem_cons_succ, List.getElem_cons_zero, List.setIfInBounds_toArray, List.set_cons_zero, List.set_cons_succ]
    refine wpAnyS_done (by kernel_rfl) ?_ _
    go_wp2_with fail
    go_ret
    exact HF.out
  · have hb : (fr == me) = false := by simpa using hfm
    have HZE := Lib.hid (show Calls Tryd.prog 49 #[.pointer (some ⟨Z, 0, none⟩), .int .i64 m.frm, .int .u32 (m.seq : Int), .int .u64 (m.stamp : Int)] w4.drew fun e w' => e = .returned (.tuple #[]) ∧ TakeEnd w B D Z O V VH m (.returned (.int .i64 0)) w' from
      (hzCame_any Z O.H VH m.frm m.seq m.stamp w4.drew h4.hz H1.out.2.2.2.1.hz).mono fun e w' hz => HZF.out _ e w' hz (by
        show _ = if m.frm = O.me then _ else _
        rw [if_neg (by rw [← HFR.out, ← HME.out.1]; exact hfm)]))
    have hS0 : w4.drew.cell? ⟨B, 1, none⟩ = some (.pointer (some ⟨Z, 0, none⟩)) ∧ w4.drew.cell? ⟨X, 0, none⟩ = some (.int .i64 m.frm) ∧ w4.drew.cell? ⟨X, 1, none⟩ = some (.int .u32 (m.seq : Int)) ∧ w4.drew.cell? ⟨X, 2, none⟩ = some (.int .u64 (m.stamp : Int)) := ⟨s1, s2, s3, s4⟩
    clear h4 hx4 hb34 hkw4 s1 s2 s3 s4 hfm
    go_upto_region 8 with (fail)
    refine wp_region_mask (fun w' => w'.cell? ⟨B, 1, none⟩ = some (.pointer (some ⟨Z, 0, none⟩)) ∧ w'.cell? ⟨X, 0, none⟩ = some (.int .i64 m.frm) ∧ w'.cell? ⟨X, 1, none⟩ = some (.int .u32 (m.seq : Int)) ∧ w'.cell? ⟨X, 2, none⟩ = some (.int .u64 (m.stamp : Int))) 10 1 [true, true, true, true, true, true, true, true, true, true, false] #[true, true, true, true, true, true, true, true, true, true, false] (by kernel_rfl) (by kernel_rfl) (by kernel_rfl) hS0 ?_
    clear hS0
    generalize w4.drew = W at *
    iterate 10
      refine wpMask_take _ (Or.inl ⟨by rfl, fun w' hS => by (try dsimp only at hS); obtain ⟨hS1, hS2, hS3, hS4⟩ := hS; go_simp; try with_reducible rfl⟩) ?_
      simp only [Act.put, List.setIfInBounds_toArray, List.set_cons_zero, List.set_cons_succ]
    refine wpMask_skip (wpMask_nil ?_)
    refine wpAnyS_ready (rs := [10]) (by kernel_rfl) (by simp) ?_
    refine AllReadyS.cons rfl (fun K hK => ?_) AllReadyS.nil
    go_simp
    refine HZE.out.mono ?_
    rintro e w5 ⟨rfl, hE⟩
    have HF := Lib.hid hE
    refine hK.out _ _ (fun h => absurd h (by decide)) ?_
    clear hK K hE HZE
    simp only [Act.put, List.getElem_toArray, List.getElem_cons_succ, List.getElem_cons_zero, List.setIfInBounds_toArray, List.set_cons_zero, List.set_cons_succ]
    refine wpAnyS_done (by kernel_rfl) ?_ _
    go_wp2_with fail
    go_ret
    exact HF.out
end Go.Proofs.YtgjlcjbmcnofiaaDoor
