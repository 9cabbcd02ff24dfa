/-
  What the library's merge leaves of two sorted rows of messages.
  Conditions: none.
-/
import Derived.Test.YtgjlcjbmcnofiaaDoorSortD
namespace Go.Proofs.YtgjlcjbmcnofiaaDoor
set_option linter.unusedVariables false
set_option linter.unusedSimpArgs false
open Go.RowKit
theorem rowM_belg {W : World} {g : Nat} {H : List Msg} (h : RowM W g H) {i : Nat} (hi : i < H.length) : ∀ w' : World, (∃ x : Bel W, w' = x.val) → w'.rangeAt g (i * 6) (msgA (gm H i)).toList := by
  rw [gm_get hi]
  exact Bel.range (h.at_ i hi) h.lt
theorem gm_eq {X L Z : List Msg} {H : List Msg} (e : H = X ++ (L ++ Z)) {i k : Nat} (hi : i = X.length + k) (hk : k < L.length) : gm H i = gm L k := by rw [e, hi]; exact gm_l X L Z k hk
theorem ltM_of {a b : Msg} {v : Int} (h : keyZ a.stamp a.frm b.stamp b.frm = v) : ltM a b = decide (v < 0) := by unfold ltM; rw [h]
set_option maxRecDepth 100000 in
set_option maxHeartbeats 2000000 in
theorem kMergeL_any (g cap n a m b : Nat) (X R Y : List Msg) (x : Msg) (w : World) (hn : n = (X ++ ([x] ++ (R ++ Y))).length) (hn1 : n ≤ 1000) (ha : a = X.length) (hm : m = X.length + 1) (hb : b = X.length + 1 + R.length)
    (hR : Srt R) (h : RowM w g (X ++ ([x] ++ (R ++ Y)))) :
    Calls Tryd.prog 103 #[.slice (some ⟨g, 0, none⟩) n cap, .int .i64 a, .int .i64 m, .int .i64 b, .func (.func 94) #[] #[]] w fun e w' => e = .returned (.tuple #[]) ∧ RowM w' g (X ++ (sortM ([x] ++ R) ++ Y)) ∧ Kept (fun q => q = g) w w' := by
  have ha1 : a ≤ 1000 := by rw [hn] at hn1; simp at hn1; omega
  have hm1 : m ≤ 1000 := by rw [hn] at hn1; simp at hn1; omega
  have hb1 : b ≤ 1000 := by rw [hn] at hn1; simp at hn1; omega
  have e0 : (m : Int) - (a : Int) = 1 := by omega
  obtain ⟨H, hH⟩ : ∃ H, H = X ++ ([x] ++ (R ++ Y)) := ⟨_, rfl⟩
  have HH := Lib.hid (And.intro hn (And.intro ha (And.intro hm (And.intro hb (And.intro h (And.intro hR hH))))))
  clear hn ha hm hb h hR hH
  go_enter Tryd.func103, Tryd.ntmps103
  go_wp2
  go_loopw [10, 11, 12] (fun i j _ wr => ∃ (s t : Nat), i = .int .i64 (s : Int) ∧ j = .int .i64 (t : Int) ∧ Hid (m ≤ s ∧ s ≤ t ∧ t ≤ b ∧ (m < s → ltM (gm H (s - 1)) x = true) ∧ (t < b → ltM (gm H t) x = false)) ∧ Below w.heap.size w wr) (fun i j _ _ => (intOf j).toNat - (intOf i).toNat)
  case atStart =>
    obtain ⟨hn, ha, hm, hb, _⟩ := HH.out
    exact ⟨m, b, rfl, rfl, ⟨by omega, by omega, by omega, by omega, by omega⟩, br _⟩
  case round =>
    obtain ⟨s, t, rfl, rfl, HI, hB⟩ := hrel
    have hs1 : s ≤ 1000 := by have := HI.out; omega
    have ht1 : t ≤ 1000 := by have := HI.out; omega
    by_cases hlt : s < t
    · have hbool : decide (s < t) = true := by simpa using hlt
      obtain ⟨c, hc⟩ : ∃ c, c = (s + t) / 2 := ⟨_, rfl⟩
      have ec : ((s : Int) + (t : Int)) / 2 = (c : Int) := by omega
      obtain ⟨hn, ha, hm, hb, h, hR, hH⟩ := HH.out
      obtain ⟨i1, i2, i3, i4, i5⟩ := HI.out
      rw [← hH] at h hn
      have hnn : n = X.length + (1 + (R.length + Y.length)) := by rw [hn, hH]; simp; omega
      have hcn : c < H.length := by omega
      have han : a < H.length := by omega
      have hr := h.below hB
      have hx : gm H a = x := by rw [gm_eq hH (k := 0) (by omega) (by simp)]; rfl
      have R1 := Lib.hid (rowM_belg hr hcn)
      have R2' := rowM_belg hr han
      rw [hx] at R2'
      have R2 := Lib.hid R2'
      obtain ⟨y, hy⟩ : ∃ y, y = gm H c := ⟨_, rfl⟩
      rw [← hy] at R1
      have hi1 : (c : Int) < (n : Int) := by omega
      have hi2 : (a : Int) < (n : Int) := by omega
      have HL := Lib.hid (fun (W : World) => kLess_any y x W)
      obtain ⟨v, hv⟩ : ∃ v, keyZ y.stamp y.frm x.stamp x.frm = v := ⟨_, rfl⟩
      have HV := Lib.hid (And.intro (ltM_of hv) (And.intro hc hy))
      rw [hv] at HL
      clear hn ha hm hb h hR hH i1 i2 i3 i4 i5 hnn hcn han hr hx R2' hy hv hc
      go_wp2_with fail
      refine wp_region_bel (by kernel_rfl) (by kernel_rfl) ?_
      repeat (first
        | (refine wpQuiet_load_want (by rfl) 42 (.tmp 43) rfl g (c * 6) rfl (msgA y).toList _ R1.out Tryd.underlying42 rfl (by kernel_rfl) ?_; go_simp)
        | (refine wpQuiet_load_want (by rfl) 42 (.tmp 47) rfl g (a * 6) rfl (msgA x).toList _ R2.out Tryd.underlying42 rfl (by kernel_rfl) ?_; go_simp)
        | go_big_quiet_step ((go_at_call 94; exact bel_call (HL.out _))))
      refine wpQuiet_nil ?_
      intro x5
      have HB5 := Lib.hid (bt hB x5.prop)
      generalize x5.val = w5 at *
      by_cases hv0 : v < 0
      · have d2 : decide (v < 0) = true := by simpa using hv0
        go_wp2_with fail
        obtain ⟨i1, i2, i3, i4, i5⟩ := HI.out
        obtain ⟨v1, v2, v3⟩ := HV.out
        exact ⟨⟨c + 1, t, by go_num, rfl, ⟨by omega, by omega, i3, fun _ => by rw [Nat.add_sub_cancel, ← v3, v1, d2], i5⟩, HB5.out⟩, by simp [intOf]; omega⟩
      · have d2 : decide (v < 0) = false := by simpa using hv0
        go_wp2_with fail
        obtain ⟨i1, i2, i3, i4, i5⟩ := HI.out
        obtain ⟨v1, v2, v3⟩ := HV.out
        exact ⟨⟨s, c, rfl, rfl, ⟨i1, by omega, by omega, i4, fun _ => by rw [← v3, v1, d2]⟩, HB5.out⟩, by simp [intOf]; omega⟩
    · have hbool : decide (s < t) = false := by simpa using hlt
      obtain ⟨q, hq⟩ : ∃ q, q + 1 = s := ⟨s - 1, by have := HI.out; have := HH.out; omega⟩
      have eq : (s : Int) - 1 = (q : Int) := by omega
      have hq1 : q ≤ 1000 := by omega
      have HZ := Lib.hid (show q = a + (s - m) ∧ a ≤ q ∧ q + 1 ≤ b ∧ b = a + 1 + R.length ∧ X ++ (R.take (q - a) ++ x :: (R.drop (q - a) ++ Y)) = X ++ (sortM ([x] ++ R) ++ Y) from by
        obtain ⟨hn, ha, hm, hb, h, hR, hH⟩ := HH.out
        obtain ⟨i1, i2, i3, i4, i5⟩ := HI.out
        have hst : s = t := by omega
        refine ⟨by omega, by omega, by omega, by omega, ?_⟩
        have e : q - a = s - m := by omega
        have hE : H = (X ++ [x]) ++ (R ++ Y) := by rw [hH]; simp
        rw [e, split_left hR (s - m) (by omega) (fun h0 => ?_) (fun h0 => ?_)]
        · simp
        · rw [← gm_eq hE (i := s - 1) (k := s - m - 1) (by simp; omega) (by omega)]
          exact i4 (by omega)
        · rw [← gm_eq hE (i := t) (k := s - m) (by simp; omega) (by omega)]
          exact i5 (by omega))
      have HR := Lib.hid (And.intro ((HH.out.2.2.2.2.1).below hB) (Kept.of_below (S := fun q => q = g) hB))
      have HI2 := HI
      clear HI hq hB
      go_wp2_with fail
      go_loopw [13] (fun i wr => ∃ k : Nat, i = .int .i64 (k : Int) ∧ Hid (a ≤ k ∧ k ≤ q) ∧ RowM wr g (X ++ (R.take (k - a) ++ x :: (R.drop (k - a) ++ Y))) ∧ Kept (fun q => q = g) w wr) (fun i _ => q - (intOf i).toNat)
      case atStart => exact ⟨a, rfl, ⟨by omega, HZ.out.2.1⟩, HR.out.1.len (by simp), HR.out.2⟩
      case round =>
        obtain ⟨k, rfl, HK, hr, hK⟩ := hrel
        clear HR
        by_cases hlt2 : k < q
        · have hbool2 : decide (k < q) = true := by simpa using hlt2
          have hk9 : k ≤ 1000 := by omega
          obtain ⟨k1, hk1e⟩ : ∃ k1, k1 = k + 1 := ⟨_, rfl⟩
          have ek : (k : Int) + 1 = (k1 : Int) := by omega
          obtain ⟨hn, ha, hm, hb, _, _, _⟩ := HH.out
          obtain ⟨p1, p2, p3, p4, p5⟩ := HZ.out
          obtain ⟨k0, _⟩ := HK.out
          have hnn : n = X.length + (1 + (R.length + Y.length)) := by rw [hn]; simp; omega
          have hd : k - a < R.length := by omega
          have hi1 : (k : Int) < (n : Int) := by omega
          have hi2 : (k1 : Int) < (n : Int) := by omega
          have hdrop := List.drop_eq_getElem_cons hd
          have htake := List.take_succ_eq_append_getElem hd
          generalize R[k - a] = y at hdrop htake
          have hA : k = (X ++ R.take (k - a)).length := by simp; omega
          have hr6 := hr.len (l' := (X ++ R.take (k - a)) ++ x :: ([] ++ y :: (R.drop (k - a + 1) ++ Y))) (by rw [hdrop]; simp)
          have hr7 := hr.len (l' := (X ++ (R.take (k - a) ++ [x])) ++ y :: (R.drop (k - a + 1) ++ Y)) (by rw [hdrop]; simp)
          obtain ⟨⟨⟨y0, yf0⟩, ⟨y1, yf1⟩, ⟨y2, yf2⟩⟩, ⟨y3, yf3⟩, ⟨y4, yf4⟩, ⟨y5, yf5⟩⟩ := rowM_cells hr6 k hA
          obtain ⟨⟨⟨z0, zf0⟩, ⟨z1, zf1⟩, ⟨z2, zf2⟩⟩, ⟨z3, zf3⟩, ⟨z4, zf4⟩, ⟨z5, zf5⟩⟩ := rowM_cells hr7 k1 (by simp at hA ⊢; omega)
          have hap : k * 6 + 6 ≤ k1 * 6 := by omega
          have hs1 := hr6.swap k k1 hA (by rw [← hA]; simp; omega)
          have hk1 := ((keptSetCells g (msgA y).toList (k * 6) wr).trans (keptSetCells g (msgA x).toList (k1 * 6) _))
          rw [putM_eq, putM_eq] at hs1 hk1
          have hz := And.intro hs1.drew (hK.trans hk1).drew
          simp only [putM] at hz
          have HS1 := Lib.hid hz
          have HE := Lib.hid (show a ≤ k1 ∧ k1 ≤ q ∧ (X ++ R.take (k - a)) ++ y :: ([] ++ x :: (R.drop (k - a + 1) ++ Y)) = X ++ (R.take (k1 - a) ++ x :: (R.drop (k1 - a) ++ Y)) from ⟨by omega, by omega, by
            rw [show k1 - a = k - a + 1 by omega, htake]; simp⟩)
          have HM := Lib.hid (show q - k1 < q - k by omega)
          clear hr6 hr7 hs1 hz hk1 hK hr hA hdrop htake hd hk1e hn hnn ha hm hb p1 p2 p3 p4 p5 k0
          have mixed : Tryd.prog.follows .mixedOrders = true := by kernel_rfl
          go_wp2_with fail
          go_big_region_o
          go_wp2
          exact ⟨⟨k1, rfl, ⟨HE.out.1, HE.out.2.1⟩, HS1.out.1.len HE.out.2.2, HS1.out.2⟩, HM.out⟩
        · have hbool2 : decide (k < q) = false := by simpa using hlt2
          have hkq : k = q := by have := HK.out; omega
          subst hkq
          have HZ2 := Lib.hid (hr.len HZ.out.2.2.2.2)
          clear hr
          go_wp2_with fail
          refine bodyPost_ret (results_none rfl _ _ _) rfl ⟨rfl, HZ2.out, hK⟩
set_option maxRecDepth 100000 in
set_option maxHeartbeats 2000000 in
theorem kMergeR_any (g cap n a m b : Nat) (X L Y : List Msg) (x : Msg) (w : World) (hn : n = (X ++ (L ++ ([x] ++ Y))).length) (hn1 : n ≤ 1000) (ha : a = X.length) (hm : m = X.length + L.length) (hb : b = X.length + L.length + 1) (hl : L.length ≠ 1)
    (hR : Srt L) (h : RowM w g (X ++ (L ++ ([x] ++ Y)))) :
    Calls Tryd.prog 103 #[.slice (some ⟨g, 0, none⟩) n cap, .int .i64 a, .int .i64 m, .int .i64 b, .func (.func 94) #[] #[]] w fun e w' => e = .returned (.tuple #[]) ∧ RowM w' g (X ++ (sortM (L ++ [x]) ++ Y)) ∧ Kept (fun q => q = g) w w' := by
  have ha1 : a ≤ 1000 := by rw [hn] at hn1; simp at hn1; omega
  have hm1 : m ≤ 1000 := by rw [hn] at hn1; simp at hn1; omega
  have hb1 : b ≤ 1000 := by rw [hn] at hn1; simp at hn1; omega
  obtain ⟨d, hd⟩ : ∃ d : Nat, (m : Int) - (a : Int) = (d : Int) := ⟨m - a, by omega⟩
  have d0 : ((d : Int) == 1) = false := by simp; omega
  have e0 : (b : Int) - (m : Int) = 1 := by omega
  obtain ⟨H, hH⟩ : ∃ H, H = X ++ (L ++ ([x] ++ Y)) := ⟨_, rfl⟩
  have HH := Lib.hid (And.intro hn (And.intro ha (And.intro hm (And.intro hb (And.intro h (And.intro hR hH))))))
  clear hn ha hm hb h hR hH hl
  go_enter Tryd.func103, Tryd.ntmps103
  go_wp2
  go_loopw [14, 15, 16] (fun i j _ wr => ∃ (s t : Nat), i = .int .i64 (s : Int) ∧ j = .int .i64 (t : Int) ∧ Hid (a ≤ s ∧ s ≤ t ∧ t ≤ m ∧ (a < s → ltM x (gm H (s - 1)) = false) ∧ (t < m → ltM x (gm H t) = true)) ∧ Below w.heap.size w wr) (fun i j _ _ => (intOf j).toNat - (intOf i).toNat)
  case atStart =>
    obtain ⟨hn, ha, hm, hb, _⟩ := HH.out
    exact ⟨a, m, rfl, rfl, ⟨by omega, by omega, by omega, by omega, by omega⟩, br _⟩
  case round =>
    obtain ⟨s, t, rfl, rfl, HI, hB⟩ := hrel
    have hs1 : s ≤ 1000 := by have := HI.out; omega
    have ht1 : t ≤ 1000 := by have := HI.out; omega
    by_cases hlt : s < t
    · have hbool : decide (s < t) = true := by simpa using hlt
      obtain ⟨c, hc⟩ : ∃ c, c = (s + t) / 2 := ⟨_, rfl⟩
      have ec : ((s : Int) + (t : Int)) / 2 = (c : Int) := by omega
      obtain ⟨hn, ha, hm, hb, h, hR, hH⟩ := HH.out
      obtain ⟨i1, i2, i3, i4, i5⟩ := HI.out
      rw [← hH] at h hn
      have hnn : n = X.length + (L.length + (1 + Y.length)) := by rw [hn, hH]; simp; omega
      have hcn : c < H.length := by omega
      have hmn : m < H.length := by omega
      have hr := h.below hB
      have hx : gm H m = x := by rw [gm_eq (X := X ++ L) (L := [x]) (Z := Y) (by rw [hH]; simp) (k := 0) (by simp; omega) (by simp)]; rfl
      have R1 := Lib.hid (rowM_belg hr hcn)
      have R2' := rowM_belg hr hmn
      rw [hx] at R2'
      have R2 := Lib.hid R2'
      obtain ⟨y, hy⟩ : ∃ y, y = gm H c := ⟨_, rfl⟩
      rw [← hy] at R1
      have hi1 : (c : Int) < (n : Int) := by omega
      have hi2 : (m : Int) < (n : Int) := by omega
      have HL := Lib.hid (fun (W : World) => kLess_any x y W)
      obtain ⟨v, hv⟩ : ∃ v, keyZ x.stamp x.frm y.stamp y.frm = v := ⟨_, rfl⟩
      have HV := Lib.hid (And.intro (ltM_of hv) (And.intro hc hy))
      rw [hv] at HL
      clear hn ha hm hb h hR hH i1 i2 i3 i4 i5 hnn hcn hmn hr hx R2' hy hv hc
      go_wp2_with fail
      refine wp_region_bel (by kernel_rfl) (by kernel_rfl) ?_
      repeat (first
        | (refine wpQuiet_load_want (by rfl) 42 (.tmp 95) rfl g (m * 6) rfl (msgA x).toList _ R2.out Tryd.underlying42 rfl (by kernel_rfl) ?_; go_simp)
        | (refine wpQuiet_load_want (by rfl) 42 (.tmp 99) rfl g (c * 6) rfl (msgA y).toList _ R1.out Tryd.underlying42 rfl (by kernel_rfl) ?_; go_simp)
        | go_big_quiet_step ((go_at_call 94; exact bel_call (HL.out _))))
      refine wpQuiet_nil ?_
      intro x5
      have HB5 := Lib.hid (bt hB x5.prop)
      generalize x5.val = w5 at *
      go_wp2_with fail
      · have d2 : decide (v < 0) = false := by have h : (!decide (v < 0)) = true := by assumption
                                               simpa using h
        obtain ⟨i1, i2, i3, i4, i5⟩ := HI.out
        obtain ⟨v1, v2, v3⟩ := HV.out
        exact ⟨⟨c + 1, t, by go_num, rfl, ⟨by omega, by omega, i3, fun _ => by rw [Nat.add_sub_cancel, ← v3, v1, d2], i5⟩, HB5.out⟩, by simp [intOf]; omega⟩
      · have d2 : decide (v < 0) = true := by have h : (!decide (v < 0)) = false := by assumption
                                              simpa using h
        obtain ⟨i1, i2, i3, i4, i5⟩ := HI.out
        obtain ⟨v1, v2, v3⟩ := HV.out
        exact ⟨⟨s, c, rfl, rfl, ⟨i1, by omega, by omega, i4, fun _ => by rw [← v3, v1, d2]⟩, HB5.out⟩, by simp [intOf]; omega⟩
    · have hbool : decide (s < t) = false := by simpa using hlt
      have HZ := Lib.hid (show a ≤ s ∧ s ≤ m ∧ m = a + L.length ∧ X ++ (L.take (s - a) ++ x :: (L.drop (s - a) ++ Y)) = X ++ (sortM (L ++ [x]) ++ Y) from by
        obtain ⟨hn, ha, hm, hb, h, hR, hH⟩ := HH.out
        obtain ⟨i1, i2, i3, i4, i5⟩ := HI.out
        have hst : s = t := by omega
        refine ⟨by omega, by omega, by omega, ?_⟩
        rw [split_right hR (s - a) (by omega) (fun h0 => ?_) (fun h0 => ?_)]
        · simp
        · rw [← gm_eq hH (i := s - 1) (k := s - a - 1) (by omega) (by omega)]
          exact i4 (by omega)
        · rw [← gm_eq hH (i := t) (k := s - a) (by omega) (by omega)]
          exact i5 (by omega))
      have HR := Lib.hid (And.intro ((HH.out.2.2.2.2.1).below hB) (Kept.of_below (S := fun q => q = g) hB))
      clear HI hB
      go_wp2_with fail
      go_loopw [17] (fun i wr => ∃ k : Nat, i = .int .i64 (k : Int) ∧ Hid (s ≤ k ∧ k ≤ m) ∧ RowM wr g (X ++ (L.take (k - a) ++ x :: (L.drop (k - a) ++ Y))) ∧ Kept (fun q => q = g) w wr) (fun i _ => (intOf i).toNat)
      case atStart =>
        obtain ⟨z1, z2, z3, z4⟩ := HZ.out
        exact ⟨m, rfl, ⟨by omega, by omega⟩, HR.out.1.len (by rw [show m - a = L.length by omega]; simp), HR.out.2⟩
      case round =>
        obtain ⟨k, rfl, HK, hr, hK⟩ := hrel
        clear HR
        by_cases hlt2 : s < k
        · have hbool2 : decide (s < k) = true := by simpa using hlt2
          obtain ⟨k0, k9⟩ := HK.out
          have hk8 : k ≤ 1000 := by omega
          obtain ⟨k1, hk1e⟩ : ∃ k1, k1 + 1 = k := ⟨k - 1, by omega⟩
          have ek : (k : Int) - 1 = (k1 : Int) := by omega
          obtain ⟨hn, ha, hm, hb, _, _, _⟩ := HH.out
          obtain ⟨p1, p2, p3, p4⟩ := HZ.out
          have hnn : n = X.length + (L.length + (1 + Y.length)) := by rw [hn]; simp; omega
          have hd : k1 - a < L.length := by omega
          have hi1 : (k : Int) < (n : Int) := by omega
          have hi2 : (k1 : Int) < (n : Int) := by omega
          have hdrop := List.drop_eq_getElem_cons hd
          have htake := List.take_succ_eq_append_getElem hd
          generalize L[k1 - a] = y at hdrop htake
          have hka : k - a = k1 - a + 1 := by omega
          have hA : k1 = (X ++ L.take (k1 - a)).length := by simp; omega
          have hr6 := hr.len (l' := (X ++ L.take (k1 - a)) ++ y :: ([] ++ x :: (L.drop (k1 - a + 1) ++ Y))) (by rw [hka, htake]; simp)
          have hr7 := hr6.len (l' := (X ++ (L.take (k1 - a) ++ [y])) ++ x :: (L.drop (k1 - a + 1) ++ Y)) (by simp)
          obtain ⟨⟨⟨y0, yf0⟩, ⟨y1, yf1⟩, ⟨y2, yf2⟩⟩, ⟨y3, yf3⟩, ⟨y4, yf4⟩, ⟨y5, yf5⟩⟩ := rowM_cells hr6 k1 hA
          obtain ⟨⟨⟨z0, zf0⟩, ⟨z1, zf1⟩, ⟨z2, zf2⟩⟩, ⟨z3, zf3⟩, ⟨z4, zf4⟩, ⟨z5, zf5⟩⟩ := rowM_cells hr7 k (by simp at hA ⊢; omega)
          have hap : k1 * 6 + 6 ≤ k * 6 := by omega
          have hs1 := hr6.swap' k1 k hA (by rw [← hA]; simp; omega)
          have hk1 := ((keptSetCells g (msgA y).toList (k * 6) wr).trans (keptSetCells g (msgA x).toList (k1 * 6) _))
          rw [putM_eq, putM_eq] at hs1 hk1
          have hz := And.intro hs1.drew (hK.trans hk1).drew
          simp only [putM] at hz
          have HS1 := Lib.hid hz
          have HE := Lib.hid (show s ≤ k1 ∧ k1 ≤ m ∧ (X ++ L.take (k1 - a)) ++ x :: ([] ++ y :: (L.drop (k1 - a + 1) ++ Y)) = X ++ (L.take (k1 - a) ++ x :: (L.drop (k1 - a) ++ Y)) from ⟨by omega, by omega, by
            rw [hdrop]; simp⟩)
          have HM := Lib.hid (show k1 < k by omega)
          clear hr6 hr7 hs1 hz hk1 hK hr hA hdrop htake hd hk1e hn hnn ha hm hb p1 p2 p3 p4 k0 k9 hka
          have mixed : Tryd.prog.follows .mixedOrders = true := by kernel_rfl
          go_wp2_with fail
          go_big_region_o
          go_wp2
          exact ⟨⟨k1, rfl, ⟨HE.out.1, HE.out.2.1⟩, HS1.out.1.len HE.out.2.2, HS1.out.2⟩, measL HM.out⟩
        · have hbool2 : decide (s < k) = false := by simpa using hlt2
          have hkq : k = s := by have := HK.out; omega
          subst hkq
          have HZ2 := Lib.hid (hr.len HZ.out.2.2.2)
          clear hr
          go_wp2_with fail
          refine bodyPost_ret (results_none rfl _ _ _) rfl ⟨rfl, HZ2.out, hK⟩
end Go.Proofs.YtgjlcjbmcnofiaaDoor
