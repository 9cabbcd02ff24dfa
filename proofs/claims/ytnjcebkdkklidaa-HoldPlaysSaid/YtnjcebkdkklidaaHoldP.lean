/-
  The law HoldCopies.
  Conditions: none.
-/
import Derived.Test.YtnjcebkdkklidaaHoldO
namespace Go.Proofs.Ytnjcebkdkklidaa
set_option linter.unusedVariables false
set_option linter.unusedSimpArgs false
open Go.RowKit
set_option maxRecDepth 100000 in
set_option maxHeartbeats 4000000 in
theorem doH_any {B : Nat} {w0 w : World} {D k : Nat} {l : List ActH} {R : Nat → List Msg} {V : Nat → Value} (h : HoldS B w0 w D l k R V) (hk : k ≤ 1000) (hl : k < l.length) (hok : MsgOk w l[k].m) (hu : l[k].upto < 4294967296) (hd : l[k].m.ds.length ≤ 20000) :
    Calls Try.prog 30 #[.pointer (some ⟨D, 0, none⟩), .agg (actL l[k]).toArray] w fun e w' => e = .returned (.tuple #[]) ∧ NextS B w0 w D l k V w' := by
  obtain ⟨x, hx⟩ : ∃ x, x = l[k] := ⟨_, rfl⟩
  rw [← hx] at hok hu hd ⊢
  obtain ⟨xd, xp, xu, xm⟩ := x
  obtain ⟨W, hW⟩ : ∃ W, W = w.alloc (.cells #[.bool xd, .int .i64 xp, .int .u32 (xu : Int), .int .i64 xm.frm, .int .u32 (xm.seq : Int), .int .u64 (xm.stamp : Int), .int .i64 xm.service, .slice xm.da xm.ds.length xm.dc, .string xm.pay] 39) := ⟨_, rfl⟩
  have hbA := ba (br w) (.cells #[.bool xd, .int .i64 xp, .int .u32 (xu : Int), .int .i64 xm.frm, .int .u32 (xm.seq : Int), .int .u64 (xm.stamp : Int), .int .i64 xm.service, .slice xm.da xm.ds.length xm.dc, .string xm.pay] 39)
  have hxA := heap_alloc_new w (.cells #[.bool xd, .int .i64 xp, .int .u32 (xu : Int), .int .i64 xm.frm, .int .u32 (xm.seq : Int), .int .u64 (xm.stamp : Int), .int .i64 xm.service, .slice xm.da xm.ds.length xm.dc, .string xm.pay] 39)
  rw [← hW] at hbA hxA
  have hS := h.below hbA
  simp only at hok hu hd
  have hFin : ∀ w', NextS B w0 W D l k V w' → NextS B w0 w D l k V w' := by
    rintro w' ⟨R', V', h1, h2, h3⟩
    exact ⟨R', V', h1, fun q hq b hb => (h2 q hq b hb).imp id (fun hle => Nat.le_trans hbA.size hle), (Kept.of_below hbA).trans h3⟩
  have z0 : W.cell? ⟨w.heap.size, 0, none⟩ = some (.bool xd) := cell_of_row _ _ 0 _ _ _ hxA
  have z1 : W.cell? ⟨w.heap.size, 1, none⟩ = some (.int .i64 xp) := cell_of_row _ _ 1 _ _ _ hxA
  have z2 : W.cell? ⟨w.heap.size, 2, none⟩ = some (.int .u32 (xu : Int)) := cell_of_row _ _ 2 _ _ _ hxA
  have y0 : W.cell? ⟨w.heap.size, 3, none⟩ = some (.int .i64 xm.frm) := cell_of_row _ _ 3 _ _ _ hxA
  have y1 : W.cell? ⟨w.heap.size, 4, none⟩ = some (.int .u32 (xm.seq : Int)) := cell_of_row _ _ 4 _ _ _ hxA
  have y2 : W.cell? ⟨w.heap.size, 5, none⟩ = some (.int .u64 (xm.stamp : Int)) := cell_of_row _ _ 5 _ _ _ hxA
  have y3 : W.cell? ⟨w.heap.size, 6, none⟩ = some (.int .i64 xm.service) := cell_of_row _ _ 6 _ _ _ hxA
  have y4 : W.cell? ⟨w.heap.size, 7, none⟩ = some (.slice xm.da xm.ds.length xm.dc) := cell_of_row _ _ 7 _ _ _ hxA
  have y5 : W.cell? ⟨w.heap.size, 8, none⟩ = some (.string xm.pay) := cell_of_row _ _ 8 _ _ _ hxA
  show Calls Try.prog 30 #[.pointer (some ⟨D, 0, none⟩), .agg #[.bool xd, .int .i64 xp, .int .u32 (xu : Int), .int .i64 xm.frm, .int .u32 (xm.seq : Int), .int .u64 (xm.stamp : Int), .int .i64 xm.service, .slice xm.da xm.ds.length xm.dc, .string xm.pay]] w _
  cases xd
  · have HP := Lib.hid (show Calls Try.prog 12 #[.pointer (some ⟨D, 0, none⟩), .agg #[.int .i64 xm.frm, .int .u32 (xm.seq : Int), .int .u64 (xm.stamp : Int), .int .i64 xm.service, .slice xm.da xm.ds.length xm.dc, .string xm.pay]] W fun e w' => e = .returned (.int .i64 (putK (stH l k).1 (stH l k).2 xm)) ∧ NextS B w0 W D l k V w' from stepPut_two hS hk hl (by rw [← hx]) (by rw [← hx]) (hok.below hbA) hd)
    have HF := Lib.hid hFin
    generalize putK (stH l k).1 (stH l k).2 xm = z at *
    clear h hx hok hbA hxA hS hFin
    go_enter Try.func30, Try.ntmps30
    go_upto_region 1 with (fail)
    rw [← hW]
    clear hW
    go_wp2_with fail
    refine HP.out.mono ?_
    rintro e w4 ⟨rfl, h4⟩
    have H4 := Lib.hid (HF.out _ h4)
    clear h4
    go_wp2
    refine bodyPost_end (results_none rfl _ _ _) rfl ⟨rfl, H4.out⟩
  · have HP := Lib.hid (show Calls Try.prog 10 #[.pointer (some ⟨D, 0, none⟩), .int .i64 xp, .int .u32 (xu : Int)] W fun e w' => e = .returned (.tuple #[]) ∧ NextS B w0 W D l k V w' from stepDrop_two hS hk hl (by rw [← hx]) (by rw [← hx]) (by rw [← hx]) hu)
    have HF := Lib.hid hFin
    clear h hx hok hbA hxA hS hFin
    go_enter Try.func30, Try.ntmps30
    go_upto_region 1 with (fail)
    rw [← hW]
    clear hW
    go_wp2_with fail
    refine HP.out.mono ?_
    rintro e w4 ⟨rfl, h4⟩
    have H4 := Lib.hid (HF.out _ h4)
    clear h4
    go_wp2
    refine bodyPost_end (results_none rfl _ _ _) rfl ⟨rfl, H4.out⟩
/-- Above of a hold behind k acts -/
theorem aboveS_any {B : Nat} {w0 w : World} {D k : Nat} {l : List ActH} {R : Nat → List Msg} {V : Nat → Value} (h : HoldS B w0 w D l k R V) (hk : k ≤ 1000) (a b : Int) :
    Calls Try.prog 21 #[.pointer (some ⟨D, 0, none⟩), .agg #[.int .u64 a, .int .i64 b]] w fun e w' => CopyEnd w (sortM (aboveN (stH l k).2 a b 64)) e w' ∧ Below w.heap.size w w' := by
  refine (hAbove_any D _ R V a b w h.1.at_ (h.1.inv.bd hk) (by have := h.1.inv.tot; omega) h.1.inv.ds6).mono ?_
  rintro e w' ⟨⟨v, L, he, ho, hm, hf⟩, hb⟩
  exact ⟨⟨v, L, he, ho, hm.trans (h.2.sorted a b), hf⟩, hb⟩
theorem aboveS_len {B : Nat} {w0 w : World} {D k : Nat} {l : List ActH} {R : Nat → List Msg} {V : Nat → Value} (h : HoldS B w0 w D l k R V) (a b : Int) : (sortM (aboveN (stH l k).2 a b 64)).length ≤ k := by
  have h0 : (sortM (aboveN R a b 64)).length = (sortM (aboveN (stH l k).2 a b 64)).length := by simpa using congrArg List.length (h.2.sorted a b)
  have h2 : (aboveN R a b 64).length ≤ (allN R 64).length := List.length_filter_le _ _
  have := h.1.inv.tot
  rw [sortM_len] at h0
  omega
/-- messages that no act of a hold writes -/
structure WasAt (w : World) (D : Nat) (V : Nat → Value) (v : Value) (L : List Msg) : Prop where
  own : w.ownsRow 0 37 6 v L.length (rowsM L)
  fresh : ∀ m ∈ L, FreshM 0 w m
  out : ∀ b, v.ownBlock = some b → ¬ holdS D V b
theorem WasAt.step {w w' : World} {D : Nat} {lo : Nat → Nat} {R : Nat → List Msg} {V V' : Nat → Value} {v : Value} {L : List Msg} (h : WasAt w D V v L) (hD : HoldAt w D lo R V) (hk : Kept (holdS D V) w w') (hn : newV w V V') : WasAt w' D V' v L := by
  refine ⟨own_keptS h.own hk h.out, fun m hm => (h.fresh m hm).kept hk (hD.deps_not (h.fresh m hm)), fun b hb => ?_⟩
  rintro (rfl | ⟨p, hp, e⟩)
  · exact h.out _ hb (.inl rfl)
  · rcases hn p hp b e with e | e
    · exact h.out b hb (.inr ⟨p, hp, e⟩)
    · have := (h.own.lt b hb).2; omega
theorem WasAt.below {w w' : World} {D : Nat} {V : Nat → Value} {v : Value} {L : List Msg} (h : WasAt w D V v L) (hb : Below w.heap.size w w') : WasAt w' D V v L :=
  ⟨own_keptS h.own (Kept.of_below (S := fun _ => False) hb) (fun _ _ h => h), fun m hm => (h.fresh m hm).below hb, h.out⟩
theorem WasAt.msgs {w : World} {D : Nat} {V : Nat → Value} {v : Value} {L : List Msg} (h : WasAt w D V v L) (hl : L.length ≤ 1000) : MsgsAt w v L :=
  (RowsAt.of_own h.own).rowsIn.msgsAt (by omega) (fun m hm => (h.fresh m hm).1)
theorem copy_msgs {w w' : World} {v : Value} {L : List Msg} (ho : w'.ownsRow w.heap.size 37 6 v L.length (rowsM L)) (hf : ∀ m ∈ L, FreshM w.heap.size w' m) (hl : L.length ≤ 1000) : MsgsAt w' v L :=
  (RowsAt.of_own ho).rowsIn.msgsAt (by omega) (fun m hm => (hf m hm).1)
set_option maxRecDepth 100000 in
set_option maxHeartbeats 16000000 in
theorem law_holdCopies (v : Value) (l : List ActH) (at0 : Int) (w : World) (h : ActsH w v l) :
    Calls Try.prog 6 #[v, .int .i64 at0] w fun e w' => e = .returned (.bool true) ∧ Below w.heap.size w w' := by
  have HH := Lib.hid h
  obtain ⟨ad, cap, rfl, hz⟩ := id h
  clear h hz
  go_enter Try.func6, Try.ntmps6
  go_wp2_with fail
  refine (awake12_any _).mono ?_
  rintro e w1 ⟨rfl, hb1⟩
  have HF := Lib.hid (FewH_any _ l w1 (HH.out.below hb1))
  have HB1 := Lib.hid hb1
  clear hb1
  go_wp2_with fail
  refine HF.out.mono ?_
  rintro e w2 ⟨⟨f, rfl, hf⟩, hb2⟩
  have HF2 := Lib.hid (And.intro hf (bt HB1.out hb2))
  clear HF hf hb2
  cases f
  · go_wp2
    go_ret
    exact ⟨rfl, HF2.out.2⟩
  have hl : l.length ≤ 200 := (HF2.out.1 rfl).1
  have HFO := Lib.hid (fun x hx => ((HF2.out.1 rfl).2 x hx).2)
  have HB2 := Lib.hid HF2.out.2
  clear HF2
  by_cases hneg : at0 < 0
  · have dneg : decide (at0 < 0) = true := by simpa using hneg
    go_wp2
    go_ret
    exact ⟨rfl, HB2.out⟩
  by_cases hbig : (l.length : Int) < at0
  · have dneg : decide (at0 < 0) = false := by simpa using hneg
    have dbig : decide ((l.length : Int) < at0) = true := by simpa using hbig
    go_wp2
    go_ret
    exact ⟨rfl, HB2.out⟩
  obtain ⟨m, rfl⟩ : ∃ m : Nat, at0 = (m : Int) := ⟨at0.toNat, by omega⟩
  have dneg : decide ((m : Int) < 0) = false := by simp
  have dbig : decide ((l.length : Int) < (m : Int)) = false := by simpa using hbig
  have dbig2 : decide (l.length < m) = false := by simp; omega
  have hm : m ≤ l.length := by omega
  clear hneg hbig
  have HN := Lib.hid (hNew_any w2)
  go_wp2_with fail
  refine HN.out.mono ?_
  rintro e w3 ⟨rfl, h3, hb3⟩
  obtain ⟨D, hD⟩ : ∃ D, D = w2.heap.size := ⟨_, rfl⟩
  have hK0 : HoldS w.heap.size w w3 D l 0 R0 (fun _ => .slice none 0 0) := ⟨⟨hD ▸ h3, .zero, (by
    rintro q (e | ⟨p, _, e⟩)
    · have := HB2.out.size; omega
    · cases e), bt HB2.out hb3, (bt HB2.out hb3).size⟩, fun p => rfl⟩
  have H3 := Lib.hid hK0
  rw [← hD]
  have HM := Lib.hid hm
  have hm2 : m ≤ 200 := by omega
  clear h3 hb3 hK0 hD HN dneg dbig dbig2 hm
  go_wp2_with fail
  go_loopw [7] (fun i wr => ∃ k : Nat, k ≤ m ∧ i = .int .i64 (k : Int) ∧ ∃ R V, HoldS w.heap.size w wr D l k R V) (fun i _ => m - (intOf i).toNat)
  case atStart => exact ⟨0, by omega, rfl, _, _, H3.out⟩
  case round =>
    obtain ⟨k, hk, rfl, R, V, hK⟩ := hrel
    by_cases hlt : k < m
    · have hbool : decide ((k : Int) < (m : Int)) = true := by simpa using hlt
      have hboolN : decide (k < m) = true := by simpa using hlt
      have hkl : k < l.length := by have := HM.out; omega
      have hki : (k : Int) < (l.length : Int) := by omega
      obtain ⟨ad', cap', e0, _, hq⟩ := HH.out.below hK.1.bel
      injection e0 with e0 e1 e2
      subst e0
      subst e2
      clear e1
      obtain ⟨g, o, rfl, hg, hrow, hok, hup⟩ := hq k hkl
      have HDo := Lib.hid (doH_any hK (by omega) hkl hok hup (HFO.out _ (List.getElem_mem hkl)))
      have HR := Lib.hid hrow
      have HLT := Lib.hid hlt
      clear hq hg hrow hok hup hK hlt hk
      generalize hx : l[k] = x at HDo HR
      clear hx
      go_wp2_with (refine wpList_load_mid rfl 39 (.tmp 37) rfl g (o + k * 9) rfl (actL x) _ HR.out Try.underlying39 rfl (by kernel_rfl) ?_)
      refine HDo.out.mono ?_
      rintro e w4 ⟨rfl, R', V', h4, _⟩
      have H4 := Lib.hid h4
      clear h4
      go_wp2
      exact ⟨⟨k + 1, HLT.out, by go_num, R', V', H4.out⟩, measI HLT.out⟩
    · have hbool : decide ((k : Int) < (m : Int)) = false := by simpa using hlt
      have hboolN : decide (k < m) = false := by simpa using hlt
      obtain rfl : k = m := by omega
      have HK := Lib.hid hK
      have HC := Lib.hid (hCopy_any D _ R V wr hK.1.at_ (hK.1.inv.bd (by omega)))
      clear hlt hK hk H3
      go_wp2_with fail
      refine HC.out.mono ?_
      rintro e w5 ⟨E, U, rfl, h5, hn5, hb5⟩
      have hD5 : HoldS w.heap.size w w5 D l k R V := HK.out.below hb5
      have hE5 : HoldS w.heap.size w w5 E l k R U := ⟨⟨h5, hD5.1.inv, fun b hb => Nat.le_trans HK.out.1.sz (hn5 b hb), hD5.1.bel, hD5.1.sz⟩, hD5.2⟩
      have hA5 : Apart D V E U := fun b hb hc => by have := HK.out.1.at_.in_ hb; have := hn5 b hc; omega
      have H5 := Lib.hid (And.intro hD5 (And.intro hE5 hA5))
      have HAb := Lib.hid (aboveS_any hD5 (by omega) 0 0)
      have hS5 := aboveS_len hD5 0 0
      clear h5 hn5 hb5 hD5 hE5 hA5 HC
      go_wp2_with fail
      refine HAb.out.mono ?_
      rintro e w6 ⟨⟨v6, L6, rfl, ho6, hc6, hf6⟩, hb6⟩
      obtain ⟨ad6, cap6, rfl⟩ := ownForm ho6
      have hL6 : L6.length ≤ 1000 := by
        have h0 : L6.length = (sortM (aboveN (stH l k).2 0 0 64)).length := by simpa using congrArg List.length hc6
        omega
      have hW6 : WasAt w6 D V (.slice ad6 L6.length cap6) L6 := ⟨ownMore ho6 (Nat.zero_le _), fun m hm => (hf6 m hm).more (Nat.zero_le _), fun b hb hc => by have := (ho6.lt b hb).1; have := H5.out.1.1.at_.in_ hc; omega⟩
      have H6 := Lib.hid (And.intro (H5.out.1.below hb6) (And.intro (H5.out.2.1.below hb6) (And.intro H5.out.2.2 (And.intro hW6 (And.intro hc6 hL6)))))
      clear ho6 hf6 hc6 hb6 HAb hL6 hW6 hS5
      go_wp2_with fail
      go_loopw [10] (fun i wr => ∃ j : Nat, j ≤ l.length ∧ i = .int .i64 (j : Int) ∧ ∃ R2 V2, HoldS w.heap.size w wr D l j R2 V2 ∧ HoldS w.heap.size w wr E l k R U ∧ Apart D V2 E U ∧ WasAt wr D V2 (.slice ad6 L6.length cap6) L6) (fun i _ => l.length - (intOf i).toNat)
      case atStart => exact ⟨k, HM.out, rfl, R, V, H6.out.1, H6.out.2.1, H6.out.2.2.1, H6.out.2.2.2.1⟩
      case round =>
        obtain ⟨j, hj, rfl, R2, V2, hK⟩ := hrel
        by_cases hlt : j < l.length
        · have hbool : decide ((j : Int) < (l.length : Int)) = true := by simpa using hlt
          have hboolN : decide (j < l.length) = true := by simpa using hlt
          have hki : (j : Int) < (l.length : Int) := by omega
          obtain ⟨ad', cap', e0, _, hq⟩ := HH.out.below hK.1.1.bel
          injection e0 with e0 e1 e2
          subst e0
          subst e2
          clear e1
          obtain ⟨g, o, rfl, hg, hrow, hok, hup⟩ := hq j hlt
          have HDo := Lib.hid (doH_any hK.1 (by omega) hlt hok hup (HFO.out _ (List.getElem_mem hlt)))
          have HR := Lib.hid hrow
          have HLT := Lib.hid hlt
          have HKK := Lib.hid hK
          generalize hx : l[j] = x at HDo HR hrow hok hup
          clear hx hq hg hrow hok hup hK hlt hj
          go_wp2_with (refine wpList_load_mid rfl 39 (.tmp 56) rfl g (o + j * 9) rfl (actL x) _ HR.out Try.underlying39 rfl (by kernel_rfl) ?_)
          refine HDo.out.mono ?_
          rintro e w4 ⟨rfl, R', V', h4, hn4, hk4⟩
          have H4 := Lib.hid (And.intro h4 (And.intro (show HoldS w.heap.size w w4 E l k R U from ⟨HKK.out.2.1.1.other HKK.out.1.1 hk4 HKK.out.2.2.1, HKK.out.2.1.2⟩) (And.intro (HKK.out.2.2.1.new HKK.out.2.1.1.at_ hn4) (HKK.out.2.2.2.step HKK.out.1.1.at_ hk4 hn4))))
          clear h4 hn4 hk4
          go_wp2
          exact ⟨⟨j + 1, HLT.out, by go_num, R', V', H4.out⟩, measI HLT.out⟩
        · have hbool : decide ((j : Int) < (l.length : Int)) = false := by simpa using hlt
          have hboolN : decide (j < l.length) = false := by simpa using hlt
          obtain rfl : j = l.length := by omega
          have HK := Lib.hid hK
          have HA1 := Lib.hid (aboveS_any hK.2.1 (by omega) 0 0)
          have hlen := aboveS_len hK.2.1 0 0
          have HLE := Lib.hid hlen
          clear hlt hK hj hlen
          go_wp2_with fail
          refine HA1.out.mono ?_
          rintro e w7 ⟨⟨v7, L7, rfl, ho7, hc7, hf7⟩, hb7⟩
          have hL7 : L7.length ≤ 1000 := by
            have h0 : L7.length = (sortM (aboveN (stH l k).2 0 0 64)).length := by simpa using congrArg List.length hc7
            have := HLE.out
            omega
          have hAll := All_any v7 (.slice ad6 L6.length cap6) L7 L6 w7 (copy_msgs ho7 hf7 hL7) ((HK.out.2.2.2.below hb7).msgs H6.out.2.2.2.2.2)
          rw [allM_core (hc7.trans H6.out.2.2.2.2.1.symm)] at hAll
          have HAll := Lib.hid hAll
          have H7 := Lib.hid (And.intro (HK.out.1.below hb7) (And.intro (HK.out.2.1.below hb7) HK.out.2.2.1))
          obtain ⟨ad7, cap7, rfl⟩ := ownForm ho7
          clear ho7 hf7 hc7 hb7 hL7 hAll HA1
          go_wp2_with fail
          refine HAll.out.mono ?_
          rintro e w8 ⟨rfl, hb8⟩
          have H8 := Lib.hid (And.intro (H7.out.1.below hb8) (And.intro (H7.out.2.1.below hb8) H7.out.2.2))
          clear hb8 HAll
          go_wp2_with fail
          go_loopw [11] (fun i wr => ∃ j : Nat, j ≤ l.length ∧ i = .int .i64 (j : Int) ∧ ∃ R3 U3, HoldS w.heap.size w wr E l j R3 U3 ∧ HoldS w.heap.size w wr D l l.length R2 V2 ∧ Apart E U3 D V2) (fun i _ => l.length - (intOf i).toNat)
          case atStart => exact ⟨k, HM.out, rfl, R, U, H8.out.2.1, H8.out.1, H8.out.2.2.symm⟩
          case round =>
            obtain ⟨j, hj, rfl, R3, U3, hK⟩ := hrel
            by_cases hlt : j < l.length
            · have hbool : decide ((j : Int) < (l.length : Int)) = true := by simpa using hlt
              have hboolN : decide (j < l.length) = true := by simpa using hlt
              have hki : (j : Int) < (l.length : Int) := by omega
              obtain ⟨ad', cap', e0, _, hq⟩ := HH.out.below hK.1.1.bel
              injection e0 with e0 e1 e2
              subst e0
              subst e2
              clear e1
              obtain ⟨g, o, rfl, hg, hrow, hok, hup⟩ := hq j hlt
              have HDo := Lib.hid (doH_any hK.1 (by omega) hlt hok hup (HFO.out _ (List.getElem_mem hlt)))
              have HR := Lib.hid hrow
              have HLT := Lib.hid hlt
              have HKK := Lib.hid hK
              generalize hx : l[j] = x at HDo HR hrow hok hup
              clear hx hq hg hrow hok hup hK hlt hj
              go_wp2_with (refine wpList_load_mid rfl 39 (.tmp 76) rfl g (o + j * 9) rfl (actL x) _ HR.out Try.underlying39 rfl (by kernel_rfl) ?_)
              refine HDo.out.mono ?_
              rintro e w4 ⟨rfl, R', V', h4, hn4, hk4⟩
              have H4 := Lib.hid (And.intro h4 (And.intro (show HoldS w.heap.size w w4 D l l.length R2 V2 from ⟨HKK.out.2.1.1.other HKK.out.1.1 hk4 HKK.out.2.2, HKK.out.2.1.2⟩) (HKK.out.2.2.new HKK.out.2.1.1.at_ hn4)))
              clear h4 hn4 hk4
              go_wp2
              exact ⟨⟨j + 1, HLT.out, by go_num, R', V', H4.out⟩, measI HLT.out⟩
            · have hbool : decide ((j : Int) < (l.length : Int)) = false := by simpa using hlt
              have hboolN : decide (j < l.length) = false := by simpa using hlt
              obtain rfl : j = l.length := by omega
              have HK := Lib.hid hK
              have HA1 := Lib.hid (aboveS_any hK.1 (by omega) 0 0)
              have HLE := Lib.hid (aboveS_len hK.1 0 0)
              clear hlt hK hj
              go_wp2_with fail
              refine HA1.out.mono ?_
              rintro e w7 ⟨⟨v7, L7, rfl, ho7, hc7, hf7⟩, hb7⟩
              have hL7 : L7.length ≤ 1000 := by
                have h0 : L7.length = (sortM (aboveN (stH l l.length).2 0 0 64)).length := by simpa using congrArg List.length hc7
                have := HLE.out
                omega
              have H7 := Lib.hid (And.intro (HK.out.1.below hb7) (And.intro (HK.out.2.1.below hb7) (And.intro (copy_msgs ho7 hf7 hL7) hc7)))
              have HA2 := Lib.hid (aboveS_any (HK.out.2.1.below hb7) (by omega) 0 0)
              obtain ⟨ad7, cap7, rfl⟩ := ownForm ho7
              clear ho7 hf7 hc7 hb7 hL7 HA1
              go_wp2_with fail
              refine HA2.out.mono ?_
              rintro e w9 ⟨⟨v9, L9, rfl, ho9, hc9, hf9⟩, hb9⟩
              have hL9 : L9.length ≤ 1000 := by
                have h0 : L9.length = (sortM (aboveN (stH l l.length).2 0 0 64)).length := by simpa using congrArg List.length hc9
                have := HLE.out
                omega
              have hAll := All_any (.slice ad7 L7.length cap7) v9 L7 L9 w9 (H7.out.2.2.1.below hb9) (copy_msgs ho9 hf9 hL9)
              rw [allM_core (H7.out.2.2.2.trans hc9.symm)] at hAll
              have HAll := Lib.hid hAll
              have H9 := Lib.hid (And.intro (H7.out.1.below hb9) (H7.out.2.1.below hb9))
              obtain ⟨ad9, cap9, rfl⟩ := ownForm ho9
              clear ho9 hf9 hc9 hb9 hL9 hAll HA2
              go_wp2_with fail
              refine HAll.out.mono ?_
              rintro e w10 ⟨rfl, hb10⟩
              have hE := H9.out.1.below hb10
              have hD := H9.out.2.below hb10
              have HL1 := Lib.hid (hLow_in E _ R3 U3 1 w10 hE.1.at_ (by omega))
              have HL2 := Lib.hid (hLow_in D _ R2 V2 1 w10 hD.1.at_ (by omega))
              have HC1 := Lib.hid (hCount_in E _ R3 U3 1 w10 hE.1.at_ (by omega) (hE.1.inv.bd (by omega)))
              have HC2 := Lib.hid (fun (W : World) (hW : Below w10.heap.size w10 W) => hCount_in D _ R2 V2 1 W (hD.1.at_.below hW) (by omega) (hD.1.inv.bd (by omega)))
              rw [show (R2 1).length = (R3 1).length by rw [hD.2.len, hE.2.len]] at HC2
              have HB := Lib.hid hE.1.bel
              generalize (stH l l.length).1 1 = n1 at *
              generalize (R3 1).length = n2 at *
              clear hE hD hb10 HAll
              go_wp2_with fail
              refine HL1.out.mono ?_
              rintro e w11 ⟨rfl, rfl⟩
              go_wp2_with fail
              refine HL2.out.mono ?_
              rintro e w11 ⟨rfl, rfl⟩
              have d1 : ((n1 : Int) == (n1 : Int)) = true := by simp
              go_wp2_with fail
              refine HC1.out.mono ?_
              rintro e w11 ⟨rfl, hb11⟩
              have HB11 := Lib.hid hb11
              clear hb11
              go_wp2_with fail
              refine (HC2.out _ HB11.out).mono ?_
              rintro e w12 ⟨rfl, hb12⟩
              have d2 : (((n1 + n2 : Nat) : Int) == ((n1 + n2 : Nat) : Int)) = true := by simp
              have HE := Lib.hid (bt HB.out (bt HB11.out hb12))
              clear hb12
              go_wp2
              go_ret
              exact ⟨rfl, HE.out⟩
end Go.Proofs.Ytnjcebkdkklidaa
