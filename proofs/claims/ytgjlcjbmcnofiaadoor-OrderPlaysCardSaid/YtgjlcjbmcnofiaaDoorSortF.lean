/-
  What the library's merge leaves of two sorted rows of messages, whatever their sizes.
  Conditions: none.
-/
import Derived.Test.YtgjlcjbmcnofiaaDoorSortE
namespace Go.Proofs.YtgjlcjbmcnofiaaDoor
set_option linter.unusedVariables false
set_option linter.unusedSimpArgs false
open Go.RowKit
theorem sort_none {A B : List Msg} (hA : Srt A) (hB : Srt B) (h : A.length = 0 ∨ B.length = 0) : sortM (A ++ B) = A ++ B := by
  refine sortM_of ?_
  rcases h with h | h
  · have := List.eq_nil_of_length_eq_zero h; subst this; simpa using hB
  · have := List.eq_nil_of_length_eq_zero h; subst this; simpa using hA
def MergeOk (g cap n a m b : Nat) (X L R Y : List Msg) (w : World) : Prop :=
  Calls Tryd.prog 103 #[.slice (some ⟨g, 0, none⟩) n cap, .int .i64 a, .int .i64 m, .int .i64 b, .func (.func 94) #[] #[]] w fun e w' => e = .returned (.tuple #[]) ∧ RowM w' g (X ++ (sortM (L ++ R) ++ Y)) ∧ Kept (fun q => q = g) w w'
def MergeAll (g cap n f : Nat) : Prop := ∀ (a m b : Nat) (X L R Y : List Msg) (w : World), L.length + R.length < f → n = (X ++ (L ++ (R ++ Y))).length → a = X.length → m = X.length + L.length → b = X.length + L.length + R.length → 0 < L.length → 0 < R.length → Srt L → Srt R → RowM w g (X ++ (L ++ (R ++ Y))) → MergeOk g cap n a m b X L R Y w
set_option maxRecDepth 100000 in
set_option maxHeartbeats 4000000 in
theorem kMerge_step (g cap n f : Nat) (hn1 : n ≤ 1000) (IH : MergeAll g cap n f) (a m b : Nat) (X L R Y : List Msg) (w : World) (hf : L.length + R.length ≤ f) (hn : n = (X ++ (L ++ (R ++ Y))).length) (ha : a = X.length) (hm : m = X.length + L.length) (hb : b = X.length + L.length + R.length)
    (hl : 2 ≤ L.length) (hr : 2 ≤ R.length) (hL : Srt L) (hR : Srt R) (h : RowM w g (X ++ (L ++ (R ++ Y)))) : MergeOk g cap n a m b X L R Y w := by
  unfold MergeOk
  have hnn : n = X.length + (L.length + (R.length + Y.length)) := by rw [hn]; simp
  have ha1 : a ≤ 1000 := by omega
  have hm1 : m ≤ 1000 := by omega
  have hb1 : b ≤ 1000 := by omega
  obtain ⟨d, hd⟩ : ∃ d : Nat, (m : Int) - (a : Int) = (d : Int) := ⟨m - a, by omega⟩
  have d0 : ((d : Int) == 1) = false := by simp; omega
  obtain ⟨e, he⟩ : ∃ e : Nat, (b : Int) - (m : Int) = (e : Int) := ⟨b - m, by omega⟩
  have e0 : ((e : Int) == 1) = false := by simp; omega
  obtain ⟨mid, hmid⟩ : ∃ mid : Nat, ((a : Int) + (b : Int)) / 2 = (mid : Int) := ⟨(a + b) / 2, by omega⟩
  have hmid1 : mid ≤ 1000 := by omega
  obtain ⟨z, hz⟩ : ∃ z : Nat, (mid : Int) + (m : Int) = (z : Int) := ⟨mid + m, by omega⟩
  have hz1 : z ≤ 2000 := by omega
  obtain ⟨p, hp⟩ : ∃ p : Nat, (z : Int) - 1 = (p : Int) := ⟨z - 1, by omega⟩
  have hp1 : p ≤ 2000 := by omega
  obtain ⟨y, hy⟩ : ∃ y : Nat, (z : Int) - (b : Int) = (y : Int) ∨ mid ≥ m := by
    by_cases hc : mid < m
    · exact ⟨z - b, .inl (by omega)⟩
    · exact ⟨0, .inr (by omega)⟩
  obtain ⟨H, hH⟩ : ∃ H, H = X ++ (L ++ (R ++ Y)) := ⟨_, rfl⟩
  have HA := Lib.hid (show mid = (a + b) / 2 ∧ z = mid + m ∧ p + 1 = z ∧ a < m ∧ m < b ∧ m = X.length + L.length ∧ b = m + R.length ∧ b ≤ n from ⟨by omega, by omega, by omega, by omega, by omega, by omega, by omega, by omega⟩)
  have HY := Lib.hid hy
  have HH := Lib.hid (And.intro hn (And.intro ha (And.intro hm (And.intro hb (And.intro h (And.intro hL (And.intro hR (And.intro hH hf))))))))
  have HIH := Lib.hid IH
  clear hn hnn ha hm hb h hL hR hH hl hr hf IH hy
  go_enter Tryd.func103, Tryd.ntmps103
  go_upto_if 140 with (fail)
  go_cut [20, 21] (fun i j wx => ∃ (s t : Nat), i = .int .i64 (s : Int) ∧ j = .int .i64 (t : Int) ∧ Hid (a ≤ s ∧ s ≤ t ∧ t ≤ m ∧ t ≤ mid ∧ z ≤ s + b ∧ (s = a ∨ z = s + b) ∧ (t = m ∨ t = mid)) ∧ w = wx)
  case first =>
    by_cases hc : mid < m
    · have hbool : decide (mid < m) = true := by simpa using hc
      have hy : (z : Int) - (b : Int) = (y : Int) := by rcases HY.out with h | h <;> omega
      go_wp2_with fail
      go_meet
      have := HA.out
      exact ⟨y, mid, rfl, rfl, ⟨by omega, by omega, by omega, by omega, by omega, by omega, by omega⟩, rfl⟩
    · have hbool : decide (mid < m) = false := by simpa using hc
      go_wp2_with fail
      go_meet
      have := HA.out
      exact ⟨a, m, rfl, rfl, ⟨by omega, by omega, by omega, by omega, by omega, by omega, by omega⟩, rfl⟩
  case rest =>
    obtain ⟨s0, t0, rfl, rfl, HST, rfl⟩ := hcut
    clear HY
    go_wp2_with fail
    go_loopw [20, 21, 23] (fun i j _ wr => ∃ (s t : Nat), i = .int .i64 (s : Int) ∧ j = .int .i64 (t : Int) ∧ Hid (a ≤ s ∧ s ≤ t ∧ t ≤ m ∧ t ≤ mid ∧ z ≤ s + b ∧ (a < s → z < s + b → ltM (gm H (z - s)) (gm H (s - 1)) = false) ∧ (t < m → t < mid → ltM (gm H (p - t)) (gm H t) = true)) ∧ Below w.heap.size w wr) (fun i j _ _ => (intOf j).toNat - (intOf i).toNat)
    case atStart =>
      obtain ⟨h1, h2, h3, h4, h5, h6, h7⟩ := HST.out
      exact ⟨s0, t0, rfl, rfl, ⟨h1, h2, h3, h4, h5, by omega, by omega⟩, br _⟩
    case round =>
      obtain ⟨s, t, rfl, rfl, HI, hB⟩ := hrel
      have hs1 : s ≤ 1000 := by have := HI.out; omega
      have ht1 : t ≤ 1000 := by have := HI.out; omega
      clear HST
      by_cases hlt : s < t
      · have hbool : decide (s < t) = true := by simpa using hlt
        as_aux_lemma =>
          obtain ⟨c, hc⟩ : ∃ c, c = (s + t) / 2 := ⟨_, rfl⟩
          have ec : ((s : Int) + (t : Int)) / 2 = (c : Int) := by omega
          obtain ⟨hn, ha, hm, hb, h, _, _, hH, _⟩ := HH.out
          obtain ⟨i1, i2, i3, i4, i5, i6, i7⟩ := HI.out
          obtain ⟨a1, a2, a3, a4, a5, a6, a7, a8⟩ := HA.out
          rw [← hH] at h hn
          obtain ⟨pc, hpc⟩ : ∃ pc : Nat, (p : Int) - (c : Int) = (pc : Int) := ⟨p - c, by omega⟩
          have hcn : c < H.length := by omega
          have hpn : pc < H.length := by omega
          have hr := h.below hB
          have R1 := Lib.hid (rowM_belg hr hcn)
          have R2 := Lib.hid (rowM_belg hr hpn)
          obtain ⟨y1, hy1⟩ : ∃ y1, y1 = gm H c := ⟨_, rfl⟩
          rw [← hy1] at R1
          obtain ⟨y2, hy2⟩ : ∃ y2, y2 = gm H pc := ⟨_, rfl⟩
          rw [← hy2] at R2
          have hi1 : (c : Int) < (n : Int) := by omega
          have hi2 : (pc : Int) < (n : Int) := by omega
          have HL := Lib.hid (fun (W : World) => kLess_any y2 y1 W)
          obtain ⟨v, hv⟩ : ∃ v, keyZ y2.stamp y2.frm y1.stamp y1.frm = v := ⟨_, rfl⟩
          have HV := Lib.hid (show ltM y2 y1 = decide (v < 0) ∧ s ≤ c ∧ c < t ∧ y1 = gm H c ∧ y2 = gm H pc ∧ pc = p - c ∧ pc = z - (c + 1) ∧ c + 1 ≤ t ∧ z ≤ c + 1 + b from ⟨ltM_of hv, by omega, by omega, hy1, hy2, by omega, by omega, by omega, by omega⟩)
          rw [hv] at HL
          clear hn ha hm hb h hH i1 i2 i3 i4 i5 i6 i7 a1 a2 a3 a4 a5 a6 a7 a8 hcn hpn hr hy1 hy2 hv hc
          go_wp2_with fail
          refine wp_region_bel (by kernel_rfl) (by kernel_rfl) ?_
          repeat (first
            | (refine wpQuiet_load_want (by rfl) 42 (.tmp 163) rfl g (pc * 6) rfl (msgA y2).toList _ R2.out Tryd.underlying42 rfl (by kernel_rfl) ?_; go_simp)
            | (refine wpQuiet_load_want (by rfl) 42 (.tmp 167) rfl g (c * 6) rfl (msgA y1).toList _ R1.out Tryd.underlying42 rfl (by kernel_rfl) ?_; go_simp)
            | go_big_quiet_step ((go_at_call 94; exact bel_call (HL.out _))))
          refine wpQuiet_nil ?_
          intro x5
          have HB5 := Lib.hid (bt hB x5.prop)
          generalize x5.val = w5 at *
          go_wp2_with fail
          · have d2 : decide (v < 0) = false := by have h : (!decide (v < 0)) = true := by assumption
                                                   simpa using h
            obtain ⟨i1, i2, i3, i4, i5, i6, i7⟩ := HI.out
            obtain ⟨v1, v2, v3, v4, v5, v6, v7, v8, v9⟩ := HV.out
            exact ⟨⟨c + 1, t, by go_num, rfl, ⟨by omega, v8, i3, i4, v9, fun _ _ => by rw [Nat.add_sub_cancel, ← v7, ← v4, ← v5, v1, d2], i7⟩, HB5.out⟩, by simp [intOf]; omega⟩
          · have d2 : decide (v < 0) = true := by have h : (!decide (v < 0)) = false := by assumption
                                                  simpa using h
            obtain ⟨i1, i2, i3, i4, i5, i6, i7⟩ := HI.out
            obtain ⟨v1, v2, v3, v4, v5, v6, v7, v8, v9⟩ := HV.out
            exact ⟨⟨s, c, rfl, rfl, ⟨i1, v2, by omega, by omega, i5, i6, fun _ _ => by rw [← v6, ← v4, ← v5, v1, d2]⟩, HB5.out⟩, by simp [intOf]; omega⟩
      · have hbool : decide (s < t) = false := by simpa using hlt
        as_aux_lemma =>
          have hst : s = t := by have := HI.out; omega
          subst hst
          obtain ⟨en, hen⟩ : ∃ en : Nat, (z : Int) - (s : Int) = (en : Int) := ⟨z - s, by have := HI.out; omega⟩
          obtain ⟨A1, U, V, B1, HZ⟩ : ∃ A1 U V B1 : List Msg, Hid (L = A1 ++ U ∧ R = V ++ B1 ∧ A1.length = s - a ∧ U.length = m - s ∧ V.length = mid - s ∧ V.length = en - m ∧ B1.length = b - en ∧ (Srt A1 ∧ Srt U ∧ Srt V ∧ Srt B1) ∧ a ≤ s ∧ s ≤ m ∧ s ≤ mid ∧ m ≤ en ∧ mid ≤ en ∧ en ≤ b ∧ mid + m = en + s ∧ sortM (L ++ R) = sortM (A1 ++ V) ++ sortM (U ++ B1)) := by
            obtain ⟨hn, ha, hm, hb, h, hL, hR, hH, _⟩ := HH.out
            obtain ⟨i1, i2, i3, i4, i5, i6, i7⟩ := HI.out
            obtain ⟨a1, a2, a3, a4, a5, a6, a7, a8⟩ := HA.out
            have hE : H = (X ++ L) ++ (R ++ Y) := by rw [hH]; simp
            refine ⟨L.take (s - a), L.drop (s - a), R.take (en - m), R.drop (en - m), (List.take_append_drop _ _).symm, (List.take_append_drop _ _).symm, by rw [List.length_take]; omega, by rw [List.length_drop]; omega, by rw [List.length_take]; omega, by rw [List.length_take]; omega, by rw [List.length_drop]; omega, ⟨srt_take hL _, srt_drop hL _, srt_take hR _, srt_drop hR _⟩, by omega, by omega, by omega, by omega, by omega, by omega, by omega, ?_⟩
            refine split_all hL hR _ _ (by omega) (by omega) (fun g1 g2 => ?_) (fun g1 g2 => ?_)
            · rw [← gm_eq hE (i := p - s) (k := en - m - 1) (by simp; omega) (by omega), ← gm_eq hH (i := s) (k := s - a) (by omega) (by omega)]
              exact i7 (by omega) (by omega)
            · rw [← gm_eq hE (i := z - s) (k := en - m) (by simp; omega) (by omega), ← gm_eq hH (i := s - 1) (k := s - a - 1) (by omega) (by omega)]
              exact i6 (by omega) (by omega)
          have hen1 : en ≤ 1000 := by have := HZ.out; omega
          have HR := Lib.hid (show RowM wr g (X ++ (A1 ++ (U ++ (V ++ (B1 ++ Y))))) ∧ Kept (fun q => q = g) w wr from ⟨((HH.out.2.2.2.2.1).below hB).len (by rw [HZ.out.1, HZ.out.2.1]; simp), .of_below hB⟩)
          clear HI hB hlt
          obtain ⟨q1, hq1⟩ : ∃ q1 : Bool, q1 = decide (s < m ∧ m < en) := ⟨_, rfl⟩
          have HQ1 := Lib.hid hq1
          obtain ⟨q2, hq2⟩ : ∃ q2 : Bool, q2 = decide (a < s ∧ s < mid) := ⟨_, rfl⟩
          have HQ2 := Lib.hid hq2
          obtain ⟨q3, hq3⟩ : ∃ q3 : Bool, q3 = decide (mid < en ∧ en < b) := ⟨_, rfl⟩
          have HQ3 := Lib.hid hq3
          clear hq1 hq2 hq3
          go_upto_region 39 with (fail)
          go_cut [185] (fun q wx => q = .bool q1 ∧ wr = wx)
          case first =>
            by_cases h1 : s < m
            · have b1 : decide (s < m) = true := by simpa using h1
              by_cases h2 : m < en
              · have b2 : decide (m < en) = true := by simpa using h2
                go_wp2_with fail
                go_meet
                exact ⟨by rw [HQ1.out]; simp [h1, h2], rfl⟩
              · have b2 : decide (m < en) = false := by simpa using h2
                go_wp2_with fail
                go_meet
                exact ⟨by rw [HQ1.out]; simp [h1, h2], rfl⟩
            · have b1 : decide (s < m) = false := by simpa using h1
              go_wp2_with fail
              go_meet
              exact ⟨by rw [HQ1.out]; simp [h1], rfl⟩
          case rest =>
          obtain ⟨rfl, rfl⟩ := hcut
          go_upto_if 185 with (fail)
          go_cut [] (fun wx => RowM wx g (X ++ (A1 ++ (V ++ (U ++ (B1 ++ Y))))) ∧ Kept (fun q => q = g) w wx)
          case first =>
            cases q1
            · have hq := HQ1.out
              have hz : U.length = 0 ∨ V.length = 0 := by
                have h1 : ¬ (s < m ∧ m < en) := by simpa using hq.symm
                have := HZ.out
                omega
              have hz2 : X ++ (A1 ++ (U ++ (V ++ (B1 ++ Y)))) = X ++ (A1 ++ (V ++ (U ++ (B1 ++ Y)))) := by
                rcases hz with h | h
                · rw [List.eq_nil_of_length_eq_zero h]; simp
                · rw [List.eq_nil_of_length_eq_zero h]; simp
              have HE := Lib.hid (And.intro (HR.out.1.len hz2) HR.out.2)
              clear hz hz2 hq
              go_wp2_with fail
              go_meet
              exact HE.out
            · have hq := HQ1.out
              have h1 : s < m ∧ m < en := by simpa using hq.symm
              have HC := Lib.hid (kRot_any g cap n s m en (X ++ A1) U V (B1 ++ Y) wr (by have := HH.out.1; rw [this, HZ.out.1, HZ.out.2.1]; simp) hn1 (by have := HZ.out; have := HH.out; simp; omega) (by have := HZ.out; have := HH.out; simp; omega) (by have := HZ.out; have := HH.out; simp; omega) (by have := HZ.out; omega) (by have := HZ.out; omega) (HR.out.1.len (by simp)))
              clear h1 hq
              go_wp2_with fail
              refine HC.out.mono ?_
              rintro e6 w6 ⟨rfl, h6, k6⟩
              have HE := Lib.hid (And.intro (h6.len (l' := X ++ (A1 ++ (V ++ (U ++ (B1 ++ Y))))) (by simp)) (HR.out.2.trans k6))
              clear h6 k6
              go_wp2_with fail
              go_meet
              exact HE.out
          case rest =>
          as_aux_lemma =>
            obtain ⟨hr2, hK2⟩ := hcut
            have HR2 := Lib.hid (And.intro hr2 hK2)
            clear hr2 hK2 HR HQ1
            go_upto_region 41 with (fail)
            go_cut [199] (fun q wx => q = .bool q2 ∧ wc = wx)
            case first =>
              by_cases h1 : a < s
              · have b1 : decide (a < s) = true := by simpa using h1
                by_cases h2 : s < mid
                · have b2 : decide (s < mid) = true := by simpa using h2
                  go_wp2_with fail
                  go_meet
                  exact ⟨by rw [HQ2.out]; simp [h1, h2], rfl⟩
                · have b2 : decide (s < mid) = false := by simpa using h2
                  go_wp2_with fail
                  go_meet
                  exact ⟨by rw [HQ2.out]; simp [h1, h2], rfl⟩
              · have b1 : decide (a < s) = false := by simpa using h1
                go_wp2_with fail
                go_meet
                exact ⟨by rw [HQ2.out]; simp [h1], rfl⟩
            case rest =>
            obtain ⟨rfl, rfl⟩ := hcut
            go_upto_if 199 with (fail)
            go_cut [] (fun wx => RowM wx g (X ++ (sortM (A1 ++ V) ++ (U ++ (B1 ++ Y)))) ∧ Kept (fun q => q = g) w wx)
            case first =>
              cases q2
              · have hq := HQ2.out
                have hz : A1.length = 0 ∨ V.length = 0 := by
                  have h1 : ¬ (a < s ∧ s < mid) := by simpa using hq.symm
                  have := HZ.out
                  omega
                have hz2 : X ++ (A1 ++ (V ++ (U ++ (B1 ++ Y)))) = X ++ (sortM (A1 ++ V) ++ (U ++ (B1 ++ Y))) := by
                  obtain ⟨_, _, _, _, _, _, _, ⟨s1, s2, s3, s4⟩, _⟩ := HZ.out
                  rw [sort_none s1 s3 hz]; simp
                have HE := Lib.hid (And.intro (HR2.out.1.len hz2) HR2.out.2)
                clear hz hz2 hq
                go_wp2_with fail
                go_meet
                exact HE.out
              · have hq := HQ2.out
                have h1 : a < s ∧ s < mid := by simpa using hq.symm
                have HC := Lib.hid (HIH.out a s mid X A1 V (U ++ (B1 ++ Y)) wc (by have := HZ.out; have := HH.out; have := HA.out; omega) (by have := HH.out.1; rw [this, HZ.out.1, HZ.out.2.1]; simp; omega) (by have := HH.out; omega) (by have := HZ.out; have := HH.out; omega) (by have := HZ.out; have := HH.out; omega) (by have := HZ.out; omega) (by have := HZ.out; omega) HZ.out.2.2.2.2.2.2.2.1.1 HZ.out.2.2.2.2.2.2.2.1.2.2.1 (HR2.out.1.len (by simp)))
                clear h1 hq
                unfold MergeOk at HC
                go_wp2_with fail
                refine HC.out.mono ?_
                rintro e6 w6 ⟨rfl, h6, k6⟩
                have HE := Lib.hid (And.intro h6 (HR2.out.2.trans k6))
                clear h6 k6
                go_wp2_with fail
                go_meet
                exact HE.out
            case rest =>
            obtain ⟨hr3, hK3⟩ := hcut
            clear HR2 HQ2
            have HR3 := Lib.hid (And.intro hr3 hK3)
            clear hr3 hK3
            go_upto_region 43 with (fail)
            go_cut [213] (fun q wx => q = .bool q3 ∧ wc = wx)
            case first =>
              by_cases h1 : mid < en
              · have b1 : decide (mid < en) = true := by simpa using h1
                by_cases h2 : en < b
                · have b2 : decide (en < b) = true := by simpa using h2
                  go_wp2_with fail
                  go_meet
                  exact ⟨by rw [HQ3.out]; simp [h1, h2], rfl⟩
                · have b2 : decide (en < b) = false := by simpa using h2
                  go_wp2_with fail
                  go_meet
                  exact ⟨by rw [HQ3.out]; simp [h1, h2], rfl⟩
              · have b1 : decide (mid < en) = false := by simpa using h1
                go_wp2_with fail
                go_meet
                exact ⟨by rw [HQ3.out]; simp [h1], rfl⟩
            case rest =>
            obtain ⟨rfl, rfl⟩ := hcut
            have HF := Lib.hid (show X ++ (sortM (A1 ++ V) ++ (sortM (U ++ B1) ++ Y)) = X ++ (sortM (L ++ R) ++ Y) from by
              have e := HZ.out.2.2.2.2.2.2.2.2.2.2.2.2.2.2.2
              rw [e]; simp)
            cases q3
            · have hq := HQ3.out
              have hz : U.length = 0 ∨ B1.length = 0 := by
                have h1 : ¬ (mid < en ∧ en < b) := by simpa using hq.symm
                have := HZ.out
                omega
              have hz2 : X ++ (sortM (A1 ++ V) ++ (U ++ (B1 ++ Y))) = X ++ (sortM (L ++ R) ++ Y) := by
                obtain ⟨_, _, _, _, _, _, _, ⟨s1, s2, s3, s4⟩, _⟩ := HZ.out
                rw [← HF.out, sort_none s2 s4 hz]; simp
              have HE := Lib.hid (And.intro (HR3.out.1.len hz2) HR3.out.2)
              clear hz hz2 hq
              go_wp2_with fail
              refine bodyPost_end (results_none rfl _ _ _) rfl ⟨rfl, HE.out⟩
            · have hq := HQ3.out
              have h1 : mid < en ∧ en < b := by simpa using hq.symm
              have hl : (sortM (A1 ++ V)).length = mid - a := by rw [sortM_len]; have := HZ.out; simp; omega
              have HC := Lib.hid (HIH.out mid en b (X ++ sortM (A1 ++ V)) U B1 Y wc (by have := HZ.out; have := HH.out; have := HA.out; omega) (by have h9 := HH.out.1; rw [h9, HZ.out.1, HZ.out.2.1]; simp [hl]; have := HZ.out; omega) (by have := HZ.out; have := HH.out; simp [hl]; omega) (by have := HZ.out; have := HH.out; simp [hl]; omega) (by have := HZ.out; have := HH.out; simp [hl]; omega) (by have := HZ.out; omega) (by have := HZ.out; omega) HZ.out.2.2.2.2.2.2.2.1.2.1 HZ.out.2.2.2.2.2.2.2.1.2.2.2 (HR3.out.1.len (by simp)))
              clear h1 hq hl
              unfold MergeOk at HC
              go_wp2_with fail
              refine HC.out.mono ?_
              rintro e6 w6 ⟨rfl, h6, k6⟩
              have HE := Lib.hid (And.intro (h6.len (l' := X ++ (sortM (L ++ R) ++ Y)) (by rw [← HF.out]; simp)) (HR3.out.2.trans k6))
              clear h6 k6
              go_wp2_with fail
              refine bodyPost_end (results_none rfl _ _ _) rfl ⟨rfl, HE.out⟩
end Go.Proofs.YtgjlcjbmcnofiaaDoor
