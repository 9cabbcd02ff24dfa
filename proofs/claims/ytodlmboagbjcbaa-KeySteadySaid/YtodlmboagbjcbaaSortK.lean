/-
  The law KeySteady, ready for its row.
  Conditions: none.
-/
import Derived.Test.YtodlmboagbjcbaaSortJ
namespace Go.Proofs.Ytodlmboagbjcbaa
set_option linter.unusedVariables false
set_option linter.unusedSimpArgs false
open Go.RowKit Go.ChangeShapes Go.WideShapes Go.Deep
def cntM (L : List Msg) (q : Msg) (k : Nat) : Nat := (L.take k).countP (fun m => sameM m q)
theorem cntM_succ (L : List Msg) (q : Msg) {k : Nat} (h : k < L.length) : cntM L q (k + 1) = cntM L q k + if sameM L[k] q = true then 1 else 0 := by
  unfold cntM
  rw [List.take_succ_eq_append_getElem h, List.countP_append, List.countP_singleton]
theorem cntM_all (l : List Msg) (q : Msg) : cntM l q l.length = cntM (sortM l) q l.length := by
  unfold cntM
  rw [List.take_length, List.take_of_length_le (by rw [sortM_len]; omega)]
  exact (sortM_same l).1.countP_eq _
theorem cntM_le (L : List Msg) (q : Msg) (k : Nat) : cntM L q k ≤ L.length := by
  unfold cntM
  exact Nat.le_trans List.countP_le_length (by rw [List.length_take]; omega)
theorem cntV {c c' : Nat} (h : c' = c + 1) : Value.int .i64 ((c : Int) + 1) = .int .i64 (c' : Int) := by rw [h]; go_num
theorem cntV0 {c c' : Nat} (h : c' = c) : Value.int .i64 (c : Int) = .int .i64 (c' : Int) := by rw [h]
theorem keyZ_le {a b : Msg} (h : leM a b) : ¬ 0 < keyZ a.stamp a.frm b.stamp b.frm := by
  rcases keyZ_vals a.stamp a.frm b.stamp b.frm with ⟨e, _⟩ | ⟨e, _⟩ | ⟨e, h'⟩
  · rw [e]; decide
  · rw [e]; decide
  · exact absurd h' h
theorem MsgsAt.bel {w : World} {ad : Option Addr} {n cap : Nat} {l : List Msg} (h : MsgsAt w (.slice ad n cap) l) {i : Nat} (hi : i < l.length) : ∃ B O, ad = some ⟨B, O, none⟩ ∧ (∀ w' : World, (∃ x : Bel w, w' = x.val) → w'.rangeAt B (O + i * 6) (msgA l[i]).toList) ∧ MsgOk w l[i] := by
  obtain ⟨ad', cap', e, _, h⟩ := h
  injection e with e _ _
  subst e
  obtain ⟨B, O, e, hB, hr, ho⟩ := h i hi
  exact ⟨B, O, e, Bel.range hr hB, ho⟩
set_option maxRecDepth 100000 in
set_option maxHeartbeats 4000000 in
theorem law_keySteady (v : Value) (l : List Msg) (w : World) (h : MsgsAt w v l) :
    Calls Try.prog 10 #[v] w fun e w' => e = .returned (.bool true) ∧ Below w.heap.size w w' := by
  have HH := Lib.hid h
  have HAw := Lib.hid (awake03_any w)
  obtain ⟨ad, cap, rfl, hz⟩ := id h
  clear h hz
  go_enter Try.func10, Try.ntmps10
  go_wp2_with fail
  refine HAw.out.mono ?_
  rintro e w1 ⟨rfl, hb1⟩
  have HF := Lib.hid (Few_any _ l w1 (HH.out.below hb1))
  have HB1 := Lib.hid hb1
  clear HAw hb1
  go_wp2_with fail
  refine HF.out.mono ?_
  rintro e w2 ⟨⟨f, rfl, hf⟩, hb2⟩
  have HF2 := Lib.hid (And.intro hf (bt HB1.out hb2))
  clear HF hf hb2
  cases f
  · go_wp2
    go_ret
    exact ⟨rfl, HF2.out.2⟩
  · have hl : l.length ≤ 300 := (HF2.out.1 rfl).1
    by_cases h60 : 60 < l.length
    · have d60 : decide ((60 : Int) < (l.length : Int)) = true := by simp; omega
      go_wp2
      go_ret
      exact ⟨rfl, HF2.out.2⟩
    · have d60 : decide ((60 : Int) < (l.length : Int)) = false := by simp; omega
      have HS := Lib.hid (kSort_msgs _ l w2 (HH.out.below HF2.out.2) (by omega))
      go_wp2_with fail
      refine HS.out.mono ?_
      rintro e w3 ⟨⟨v3, rfl, hm3⟩, hb3⟩
      obtain ⟨S, hS⟩ : ∃ S, S = sortM l := ⟨_, rfl⟩
      have hSl : S.length = l.length := by rw [hS, sortM_len]
      rw [← hS] at hm3
      obtain ⟨ad3, cap3, rfl, hz⟩ := id hm3
      have hb3w := bt HF2.out.2 hb3
      have HS4 := Lib.hid (kSort_msgs _ S w3 hm3 (by omega))
      rw [show SortEndM w3 S = SortEndM w3 S from rfl] at HS4
      have dn : ((S.length : Int) != (l.length : Int)) = false := by simp; omega
      have H3 := Lib.hid (And.intro hm3 (And.intro hb3w (And.intro hS hSl)))
      have hSb : S.length ≤ 300 := by omega
      clear hm3 hb3 hb3w hS hSl hz HS
      go_wp2_with fail
      refine HS4.out.mono ?_
      rintro e w4 ⟨⟨v4, rfl, hm4⟩, hb4⟩
      have hss : sortM S = S := by rw [H3.out.2.2.1]; exact sortM_of (sortM_srt _)
      rw [hss] at hm4
      have hA4 := All_any v4 _ S S w4 hm4 (H3.out.1.below hb4)
      rw [allM_self] at hA4
      have HA4 := Lib.hid hA4
      have H4 := Lib.hid (And.intro (H3.out.1.below hb4) (bt H3.out.2.1 hb4))
      clear hA4 hm4 hb4 hss HS4
      go_wp2_with fail
      refine HA4.out.mono ?_
      rintro e w5 ⟨rfl, hb5⟩
      have H5 := Lib.hid (And.intro (H4.out.1.below hb5) (bt H4.out.2 hb5))
      clear HA4 H4 hb5
      go_wp2_with fail
      go_loopw [4, 5, 6, 7] (fun i _ _ _ wr => ∃ t : Nat, t ≤ S.length ∧ i = .int .i64 (t : Int) ∧ Below w5.heap.size w5 wr) (fun i _ _ _ _ => S.length - (intOf i).toNat)
      case atStart => exact ⟨0, by omega, rfl, br _⟩
      case round =>
        obtain ⟨t, ht, rfl, hb6⟩ := hrel
        by_cases hlt : t < S.length
        · have hbool : decide ((t : Int) < (S.length : Int)) = true := by simpa using hlt
          have hit : (t : Int) < (S.length : Int) := by omega
          have ht1 : t ≤ 300 := by omega
          obtain ⟨B3, O3, rfl, hq, hqo⟩ := (H5.out.1.below hb6).bel hlt
          obtain ⟨q, hqe⟩ : ∃ q, q = S[t] := ⟨_, rfl⟩
          rw [← hqe] at hq hqo
          have HQ := Lib.hid (And.intro hq hqo)
          have HB6 := Lib.hid hb6
          have HLT := Lib.hid hlt
          have HQE := Lib.hid (hqe.trans (gm_get hlt).symm)
          clear hq hqo hb6 hqe ht hlt
          go_upto_region 11 with (fail)
          go_cut [54] (fun r wx => r = .bool false ∧ Below wr.heap.size wr wx)
          case first =>
            by_cases h0 : t = 0
            · subst h0
              refine wp_region_bel (by kernel_rfl) (by kernel_rfl) ?_
              repeat (go_big_quiet_step ((fail)))
              refine wpQuiet_nil ?_
              intro w6 hw6
              obtain ⟨x6, rfl⟩ := hw6
              have hb7 := x6.prop
              generalize x6.val = w6 at *
              go_wp2
              go_meet
              exact ⟨rfl, hb7⟩
            · obtain ⟨c, hc⟩ : ∃ c : Nat, (t : Int) - 1 = (c : Int) := ⟨t - 1, by omega⟩
              have d1 : decide (0 < t) = true := by simp; omega
              have d1' : decide ((0 : Int) < (t : Int)) = true := by simp; omega
              have hcS : c < S.length := by omega
              have hic : (c : Int) < (S.length : Int) := by omega
              obtain ⟨B4, O4, e4, hp, hpo⟩ := (H5.out.1.below HB6.out).bel hcS
              injection e4 with e4
              injection e4 with e4 e5
              subst e4; subst e5
              obtain ⟨p, hpe⟩ : ∃ p, p = S[c] := ⟨_, rfl⟩
              rw [← hpe] at hp hpo
              have R1 := Lib.hid hp
              have hle : leM p q := by
                rw [hpe, HQE.out, ← gm_get hcS]
                have hs : Srt S := by rw [H3.out.2.2.1]; exact sortM_srt _
                exact srt_gm hs (by omega) HLT.out
              obtain ⟨z, hz⟩ : ∃ z, keyZ p.stamp p.frm q.stamp q.frm = z := ⟨_, rfl⟩
              have hzz := keyZ_le hle
              rw [hz] at hzz
              have d2 : decide (0 < z) = false := by simpa using hzz
              have HO1 := Lib.hid (fun (W : World) => kOf_any p W)
              have HO2 := Lib.hid (fun (W : World) => kOf_any q W)
              have HC := Lib.hid (fun (W : World) => kCmp_any p.stamp p.frm q.stamp q.frm W)
              rw [hz] at HC
              clear hp hpo hpe hle hz hzz h0 hcS
              refine wp_region_bel (by kernel_rfl) (by kernel_rfl) ?_
              repeat (first
                | (refine wpQuiet_load_want (by rfl) 37 (.tmp 44) rfl B3 (O3 + c * 6) rfl (msgA p).toList _ R1.out Try.underlying37 rfl (by kernel_rfl) ?_; go_simp)
                | (refine wpQuiet_load_want (by rfl) 37 (.tmp 49) rfl B3 (O3 + t * 6) rfl (msgA q).toList _ HQ.out.1 Try.underlying37 rfl (by kernel_rfl) ?_; go_simp)
                | go_big_quiet_step ((first | (go_at_call 33; exact bel_call (HO1.out _)) | (go_at_call 33; exact bel_call (HO2.out _)) | (go_at_call 29; exact bel_call (HC.out _)))))
              refine wpQuiet_nil ?_
              intro x6
              have hb7 := x6.prop
              generalize x6.val = w6 at *
              go_wp2
              go_meet
              exact ⟨rfl, hb7⟩
          case rest =>
          obtain ⟨rfl, hb7⟩ := hcut
          have HB7 := Lib.hid (And.intro (HB6.out.trans (hb7.mono HB6.out.size)) hb7)
          have HQ7 := Lib.hid (show ∀ W, Below wc.heap.size wc W → W.rangeAt B3 (O3 + t * 6) (msgA q).toList ∧ MsgOk W q from fun W hb => ⟨HQ.out.1 W ⟨⟨W, bt hb7 hb⟩, rfl⟩, HQ.out.2.below (bt hb7 hb)⟩)
          have HL7 := Lib.hid (show ∀ W, Below wc.heap.size wc W → MsgsAt W (.slice ad l.length cap) l ∧ MsgsAt W (.slice (some ⟨B3, O3, none⟩) S.length cap3) S from fun W hb => ⟨HH.out.below (bt (bt (H5.out.2) (bt HB6.out hb7)) hb), H5.out.1.below (bt (bt HB6.out hb7) hb)⟩)
          clear hb7 HQ
          go_wp2_with fail
          obtain ⟨wo, rfl⟩ : ∃ wo : World, wo = wc := ⟨_, rfl⟩
          go_loopw [5, 6, 7] (fun x y k wr => ∃ t : Nat, t ≤ l.length ∧ k = .int .i64 (t : Int) ∧ x = .int .i64 (cntM l q t : Int) ∧ y = .int .i64 (cntM S q t : Int) ∧ Below wo.heap.size wo wr) (fun _ _ k _ => l.length - (intOf k).toNat)
          case atStart => exact ⟨0, by omega, rfl, rfl, rfl, br _⟩
          case round =>
            obtain ⟨k, hk, rfl, rfl, rfl, hb8⟩ := hrel
            have hx1 := cntM_le l q k
            have hx2 := cntM_le S q k
            have hcx : cntM l q k ≤ 300 := by omega
            have hcy : cntM S q k ≤ 300 := by omega
            clear hx1 hx2
            by_cases hk2 : k < l.length
            · have hbool2 : decide ((k : Int) < (l.length : Int)) = true := by simpa using hk2
              have hi1 : (k : Int) < (l.length : Int) := by omega
              have hkS : k < S.length := by rw [H3.out.2.2.2]; exact hk2
              have hi2 : (k : Int) < (S.length : Int) := by omega
              have hs1 := cntM_succ l q hk2
              have hs2 := cntM_succ S q hkS
              obtain ⟨B1, O1, rfl, R1', ok1⟩ := ((HL7.out _ hb8).1).bel hk2
              obtain ⟨B2, O2, e2, R2', ok2⟩ := ((HL7.out _ hb8).2).bel hkS
              injection e2 with e2
              injection e2 with e2 e3
              subst e2; subst e3
              obtain ⟨x, hx⟩ : ∃ x, x = l[k] := ⟨_, rfl⟩
              obtain ⟨y, hy⟩ : ∃ y, y = S[k] := ⟨_, rfl⟩
              rw [← hx] at hs1 R1' ok1
              rw [← hy] at hs2 R2' ok2
              obtain ⟨b1, hb1⟩ : ∃ b, b = sameM x q := ⟨_, rfl⟩
              obtain ⟨b2, hb2⟩ : ∃ b, b = sameM y q := ⟨_, rfl⟩
              rw [← hb1] at hs1
              rw [← hb2] at hs2
              have HC1 := Lib.hid (show ∀ X : Bel wr, Calls Try.prog 24 #[.agg (msgA x), .agg (msgA q)] X.val fun e w' => e = .returned (.bool b1) ∧ Below X.val.heap.size X.val w' from fun X => by rw [hb1]; exact Same_any x q X.val (ok1.below X.prop) (HQ7.out _ (bt hb8 X.prop)).2)
              have HC2 := Lib.hid (show ∀ W, Below wr.heap.size wr W → Calls Try.prog 24 #[.agg (msgA y), .agg (msgA q)] W fun e w' => e = .returned (.bool b2) ∧ Below W.heap.size W w' from fun W hW => by rw [hb2]; exact Same_any y q W (ok2.below hW) (HQ7.out _ (bt hb8 hW)).2)
              have R1 := Lib.hid R1'
              have RQ := Lib.hid (show ∀ w' : World, (∃ x : Bel wr, w' = x.val) → w'.rangeAt B3 (O3 + t * 6) (msgA q).toList from fun w' ⟨X, e⟩ => e ▸ (HQ7.out _ (bt hb8 X.prop)).1)
              have R2 := Lib.hid (show ∀ W, Below wr.heap.size wr W → W.rangeAt B3 (O3 + k * 6) (msgA y).toList from fun W hW => R2' W ⟨⟨W, hW⟩, rfl⟩)
              have HS1 := Lib.hid hs1
              have HS2 := Lib.hid hs2
              have HB8 := Lib.hid hb8
              have HK2 := Lib.hid hk2
              obtain ⟨cx, hcxe⟩ : ∃ c, c = cntM l q k := ⟨_, rfl⟩
              obtain ⟨cy, hcye⟩ : ∃ c, c = cntM S q k := ⟨_, rfl⟩
              rw [← hcxe] at HS1 hcx ⊢
              rw [← hcye] at HS2 hcy ⊢
              clear hs1 hs2 R1' R2' ok1 ok2 hx hy hb1 hb2 hb8 hk2 hkS hcxe hcye hk
              go_wp2_with fail
              refine wp_region_bel (by kernel_rfl) (by kernel_rfl) ?_
              repeat (first
                | (refine wpQuiet_load_want (by rfl) 37 (.tmp 63) rfl B1 (O1 + k * 6) rfl (msgA x).toList _ R1.out Try.underlying37 rfl (by kernel_rfl) ?_; go_simp)
                | (refine wpQuiet_load_want (by rfl) 37 (.tmp 67) rfl B3 (O3 + t * 6) rfl (msgA q).toList _ RQ.out Try.underlying37 rfl (by kernel_rfl) ?_; go_simp)
                | go_big_quiet_step ((go_at_call 24; exact bel_call (HC1.out _))))
              refine wpQuiet_nil ?_
              intro x6
              have hb9 := x6.prop
              generalize x6.val = w6 at *
              have RQ6 := Lib.hid (show ∀ w' : World, (∃ x : Bel w6, w' = x.val) → w'.rangeAt B3 (O3 + t * 6) (msgA q).toList from fun w' ⟨X, e⟩ => e ▸ (HQ7.out _ (bt HB8.out (bt hb9 X.prop))).1)
              have R26 := Lib.hid (show ∀ w' : World, (∃ x : Bel w6, w' = x.val) → w'.rangeAt B3 (O3 + k * 6) (msgA y).toList from fun w' ⟨X, e⟩ => e ▸ R2.out _ (bt hb9 X.prop))
              have HC26 := Lib.hid (fun X : Bel w6 => HC2.out X.val (bt hb9 X.prop))
              have HB9 := Lib.hid (bt HB8.out hb9)
              clear hb9
              cases b1
              all_goals
                go_wp2_with fail
                refine wp_region_bel (by kernel_rfl) (by kernel_rfl) ?_
                repeat (first
                  | (refine wpQuiet_load_want (by rfl) 37 (.tmp 74) rfl B3 (O3 + k * 6) rfl (msgA y).toList _ R26.out Try.underlying37 rfl (by kernel_rfl) ?_; go_simp)
                  | (refine wpQuiet_load_want (by rfl) 37 (.tmp 78) rfl B3 (O3 + t * 6) rfl (msgA q).toList _ RQ6.out Try.underlying37 rfl (by kernel_rfl) ?_; go_simp)
                  | go_big_quiet_step ((go_at_call 24; exact bel_call (HC26.out _))))
                refine wpQuiet_nil ?_
                intro x7
                have hb10 := bt HB9.out x7.prop
                generalize x7.val = w7 at *
                cases b2
                all_goals
                  go_wp2
                  exact ⟨⟨k + 1, HK2.out, by go_num, by first | exact cntV (by simpa using HS1.out) | exact cntV0 (by simpa using HS1.out), by first | exact cntV (by simpa using HS2.out) | exact cntV0 (by simpa using HS2.out), hb10⟩, measI HK2.out⟩
            · have hbool2 : decide ((k : Int) < (l.length : Int)) = false := by simpa using hk2
              obtain rfl : k = l.length := by omega
              have e1 : cntM l q l.length = cntM S q l.length := by rw [H3.out.2.2.1]; exact cntM_all l q
              obtain ⟨c, hc⟩ : ∃ c, c = cntM S q l.length := ⟨_, rfl⟩
              rw [e1, ← hc]
              have dd : ((c : Int) != (c : Int)) = false := by simp
              have HB8 := Lib.hid (bt HB7.out.1 hb8)
              clear e1 hc hb8 hcx hcy
              go_wp2
              exact ⟨⟨t + 1, HLT.out, by go_num, HB8.out⟩, measI HLT.out⟩
        · have hbool : decide ((t : Int) < (S.length : Int)) = false := by simpa using hlt
          have HB := Lib.hid (bt H5.out.2 hb6)
          clear hb6
          go_wp2
          go_ret
          exact ⟨rfl, HB.out⟩
theorem row_keySteady {H : Type} {enc : TypeId × Value → H} {r : Reach} {b0 base : Nat} {spare : Nat → Bool} {held : Bool} {d : DataW H} {p : List MemPlace} (v : Value) (W : World)
    (hv : Value.okWide Try.prog W r b0 22 v) (h : DataW.Trod enc Try.prog W base spare held 22 v d p) :
    Calls Try.prog 10 #[v] W fun e w' => e = .returned (.bool true) ∧ Below W.heap.size W w' := by
  obtain ⟨l, hl⟩ := msgs_arg hv h
  exact law_keySteady v l W hl
end Go.Proofs.Ytodlmboagbjcbaa
