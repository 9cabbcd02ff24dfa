/-
  The law MonitorStays.
  Conditions: those that each theorem names.
-/
import Derived.Test.YtogagkgkmoppmaaMonY
namespace Go.Proofs.Ytogagkgkmoppmaa
set_option linter.unusedVariables false
set_option linter.unusedSimpArgs false
open Go.RowKit GM
theorem told_nums (l : List Ev) : 0 ≤ (told l).broken ∧ 0 ≤ (told l).at_ := by
  suffices ∀ (l : List Ev) (P : PM), 0 ≤ P.broken → 0 ≤ P.at_ → 0 ≤ P.len → 0 ≤ (l.foldl padd P).broken ∧ 0 ≤ (l.foldl padd P).at_ from this l PM0 (by decide) (by decide) (by decide)
  intro l
  induction l with
  | nil => intro P h1 h2 _; exact ⟨h1, h2⟩
  | cons x l ih =>
    intro P h1 h2 h3
    have h := padd_added P x
    have hb := h.broken
    unfold Le at hb
    refine ih _ (by omega) ?_ (by rw [h.len]; omega)
    by_cases h0 : P.at_ = 0
    · by_cases h4 : 0 < (padd P x).broken
      · rw [(h.now h0 h4).1]
        omega
      · rw [(h.not h0 h4).1]
        omega
    · rw [(h.was h0).1]
      exact h2
theorem rowCells (l : List Value) : l.toArray.toList = l := by simp
set_option maxRecDepth 100000 in
set_option maxHeartbeats 16000000 in
theorem law_monitorStays (w : World) (ad : Option Addr) (cap : Nat) (l : List Ev) (h : EvsAt w ad l) : Calls Try.prog 3 #[.slice ad l.length cap] w fun e w' => e = .returned (.bool true) ∧ Below w.heap.size w w' := by
  have HL := Lib.hid h
  have hll := h.1
  obtain ⟨n, hn⟩ : ∃ n, n = l.length := ⟨_, rfl⟩
  have HA := Lib.hid (awake_any w)
  have HFW := Lib.hid (fun w1 (hb : Below w.heap.size w w1) => few_any w1 ad cap l (h.below hb))
  rw [← hn] at hll HFW ⊢
  have HN := Lib.hid hn
  clear h hn
  go_enter Try.func3, Try.ntmps3
  go_wp2_with fail
  refine HA.out.mono ?_
  rintro e w1 ⟨rfl, hb1⟩
  have HF := Lib.hid (HFW.out w1 hb1)
  have HB1 := Lib.hid hb1
  clear hb1 HFW HA
  go_wp2_with fail
  refine HF.out.mono ?_
  rintro e w2 ⟨⟨b, rfl, hb⟩, hb2⟩
  have HB2 := Lib.hid (bt HB1.out hb2)
  clear hb2 HF
  cases b
  · clear hb
    go_wp2_with fail
    go_ret
    exact ⟨rfl, HB2.out⟩
  have hn5 : n ≤ 500 := by rw [HN.out]; exact hb rfl
  have HNW := Lib.hid (new_any w2 w.heap.size [] ⟨fun p hp => (by cases hp), fun p hp => (by cases hp), List.Pairwise.nil⟩ HB2.out.size)
  clear hb
  go_wp2_with fail
  refine HNW.out.mono ?_
  rintro e w3 ⟨B, M, rfl, N3, hM, hS, hP, hB⟩
  have HI := Lib.hid (show ∃ M, Now w B w.heap.size M [] w3 ∧ MOk M ∧ Sz 0 M ∧ proj M = told (l.take 0) from ⟨M, ⟨N3.own, (Kept.of_below HB2.out).trans N3.kept, N3.low⟩, hM, hS, hP⟩)
  have HS0 := Lib.hid (show (told (l.take 0)).broken = 0 ∧ (told (l.take 0)).at_ = 0 ∧ (told (l.take 0)).rule = 0 from ⟨rfl, rfl, rfl⟩)
  clear N3 hM hS hP hB HNW
  go_wp2_with fail
  go_loopw [4, 5, 6, 7] (fun sl sa sr i wr => ∃ k : Nat, k ≤ n ∧ i = .int .i64 (k : Int) ∧ sl = .int .i64 (told (l.take k)).broken ∧ sa = .int .i64 (told (l.take k)).at_ ∧ sr = .int .i64 (told (l.take k)).rule ∧ Hid (∃ M, Now w B w.heap.size M [] wr ∧ MOk M ∧ Sz k M ∧ proj M = told (l.take k))) (fun _ _ _ i _ => n - (intOf i).toNat)
  case atStart => exact ⟨0, by omega, rfl, by rw [HS0.out.1], by rw [HS0.out.2.1], by rw [HS0.out.2.2], HI⟩
  case round =>
    obtain ⟨k, hk, rfl, rfl, rfl, rfl, HW⟩ := hrel
    by_cases hlt : k < n
    · have hbool' : decide ((k : Int) < (n : Int)) = true := by rw [decide_eq_true_eq]; omega
      have hbool : decide (k < n) = true := by rw [decide_eq_true_eq]; omega
      have hki : (k : Int) < (n : Int) := by omega
      have hkl : k < l.length := by rw [← HN.out]; exact hlt
      obtain ⟨M, N, hM, hS, hP⟩ := HW.out
      have hbr : Below w.heap.size w wr := N.kept.below (Nat.le_refl _) (fun k hk h => by omega)
      obtain ⟨b, o, hga, hBl, hr, hok⟩ := (HL.out.below hbr).2 k hkl
      have hadd := padd_added (told (l.take k)) l[k]
      have hnums := told_nums (l.take k)
      have htl : told (l.take (k + 1)) = padd (told (l.take k)) l[k] := by
        rw [List.take_succ_eq_append_getElem hkl, told_snoc]
      have hlen : (told (l.take k)).len = (k : Int) := by
        rw [told_len, List.length_take]
        omega
      obtain ⟨x, hx⟩ : ∃ x, x = l[k] := ⟨_, rfl⟩
      rw [← hx] at hr hok hadd htl
      have h0 := res_c hP
      have HC := Lib.hid ((add_any wr B w.heap.size k M [] N.own hM N.low hS (by omega) (by rw [h0.2.1, hlen]; omega) x hok.ds hok.dl hok.rd))
      rw [hP, ← htl] at HC
      obtain ⟨cx, hcx⟩ : ∃ cx, cx = evA x := ⟨_, rfl⟩
      rw [← hcx] at hr HC
      have HSZ := Lib.hid (show (Try.prog.info? 39).map (·.size) = some cx.toList.length from by rw [hcx]; exact evInfo)
      have hc1 : cx.toList.toArray = cx := by simp
      have HR := Lib.hid hr
      have HK := Lib.hid (And.intro N.kept hlt)
      have HAD := Lib.hid (And.intro (htl ▸ hadd) (And.intro hnums hlen))
      clear hr hok hadd hx hkl hBl hM hS hP N h0 hcx hbr htl hnums hlen hlt HI HS0
      rw [hga]
      go_wp2_with (first | (with_reducible refine wpList_load_mid rfl 39 (.tmp 26) rfl b (o + k * 19) rfl cx.toList _ HR.out Try.underlying39 rfl HSZ.out ?_) | fail)
      refine HC.out.mono ?_
      rintro e w4 ⟨rfl, M4, N4, hM4, hS4, hP4⟩
      have h4 := res_c hP4
      have HFI := Lib.hid (first_any w4 B M4.c (own_mon N4.own))
      rw [h4.2.2.1, h4.2.2.2] at HFI
      have HI4 := Lib.hid (show ∃ M, Now w B w.heap.size M [] w4 ∧ MOk M ∧ Sz (k + 1) M ∧ proj M = told (l.take (k + 1)) from ⟨M4, ⟨N4.own, HK.out.1.trans N4.kept, N4.low⟩, hM4, hS4, hP4⟩)
      clear N4 hM4 hS4 hP4 h4 HC HR HSZ HW hc1
      obtain ⟨z, hz⟩ : ∃ z, z = (told (l.take k)).broken := ⟨_, rfl⟩
      obtain ⟨a, ha⟩ : ∃ z, z = (told (l.take k)).at_ := ⟨_, rfl⟩
      obtain ⟨u, hu⟩ : ∃ z, z = (told (l.take k)).rule := ⟨_, rfl⟩
      obtain ⟨z', hz'⟩ : ∃ z, z = (told (l.take (k + 1))).broken := ⟨_, rfl⟩
      obtain ⟨a', ha'⟩ : ∃ z, z = (told (l.take (k + 1))).at_ := ⟨_, rfl⟩
      obtain ⟨u', hu'⟩ : ∃ z, z = (told (l.take (k + 1))).rule := ⟨_, rfl⟩
      have HQ := Lib.hid (show Le z z' ∧ (¬ a = 0 → a' = a ∧ u' = u) ∧ (a = 0 → 0 < z' → a' = (k : Int) + 1 ∧ u' = z') ∧ (a = 0 → ¬ 0 < z' → a' = 0 ∧ u' = u) ∧ 0 ≤ z ∧ 0 ≤ a from by
        obtain ⟨had, ⟨h1, h2⟩, h3⟩ := HAD.out
        rw [hz, ha, hu, hz', ha', hu']
        exact ⟨had.broken, had.was, fun e1 e2 => by rw [← h3]; exact had.now e1 e2, had.not, h1, h2⟩)
      rw [← hz, ← ha, ← hu, ← hz']
      rw [← ha', ← hu'] at HFI
      have HE := Lib.hid (And.intro hz' (And.intro ha' hu'))
      clear hz ha hu hz' ha' hu' HAD
      go_wp2_with fail
      refine HFI.out.mono ?_
      rintro e w5 ⟨rfl, hb5⟩
      have HI5 := Lib.hid (show ∃ M, Now w B w.heap.size M [] w5 ∧ MOk M ∧ Sz (k + 1) M ∧ proj M = told (l.take (k + 1)) from by
        obtain ⟨M, N, h1, h2, h3⟩ := HI4.out
        exact ⟨M, N.below hb5, h1, h2, h3⟩)
      clear hb5 HI4 HFI
      have hk1 : (k : Int) + 1 < 1000 := by omega
      go_upto_region 13 with (fail)
      go_cut [77] (fun s77 wx => s77 = .bool false ∧ wx = w5)
      case first =>
        obtain ⟨q1, q2, q3, q4, q5, q6⟩ := HQ.out
        unfold Le at q1
        by_cases hz : 0 < z
        · have d1 : decide (0 < z) = true := by simpa using hz
          have d2 : (z' == 0) = false := by simp; omega
          have d3 : decide (z < z') = false := by simp; omega
          by_cases ha : a = 0
          · subst ha
            by_cases hz1 : 0 < z'
            · obtain ⟨rfl, rfl⟩ := q3 rfl hz1
              have d4 : decide (0 < u') = true := by simpa using hz1
              clear q1 q2 q3 q4 q5 q6 hz hz1
              go_wp2_with fail
              go_meet
              exact ⟨rfl, rfl⟩
            · omega
          · obtain ⟨rfl, rfl⟩ := q2 ha
            have d4 : decide (0 < a') = true := by simp; omega
            have d5 : (a' == 0) = false := by simpa using ha
            clear q1 q2 q3 q4 q5 q6 hz ha
            go_wp2_with fail
            go_meet
            exact ⟨rfl, rfl⟩
        · have d1 : decide (0 < z) = false := by simpa using hz
          by_cases ha : a = 0
          · subst ha
            by_cases hz1 : 0 < z'
            · obtain ⟨rfl, rfl⟩ := q3 rfl hz1
              have d4 : decide (0 < u') = true := by simpa using hz1
              clear q1 q2 q3 q4 q5 q6 hz hz1
              go_wp2_with fail
              go_meet
              exact ⟨rfl, rfl⟩
            · obtain ⟨rfl, rfl⟩ := q4 rfl (by omega)
              have d4 : decide (0 < z') = false := by simpa using hz1
              clear q1 q2 q3 q4 q5 q6 hz hz1
              go_wp2_with fail
              go_meet
              exact ⟨rfl, rfl⟩
          · obtain ⟨rfl, rfl⟩ := q2 ha
            have d4 : decide (0 < a') = true := by simp; omega
            have d5 : (a' == 0) = false := by simpa using ha
            clear q1 q2 q3 q4 q5 q6 hz ha
            go_wp2_with fail
            go_meet
            exact ⟨rfl, rfl⟩
      case rest =>
      obtain ⟨rfl, rfl⟩ := hcut
      go_wp2_with fail
      exact ⟨⟨k + 1, HK.out.2, by go_num, by rw [HE.out.1], by rw [HE.out.2.1], by rw [HE.out.2.2], HI5⟩, by have := HK.out.2; simp [intOf]; omega⟩
    · have hbool' : decide ((k : Int) < (n : Int)) = false := by rw [decide_eq_false_iff_not]; omega
      have hbool : decide (k < n) = false := by rw [decide_eq_false_iff_not]; omega
      have HE := Lib.hid (show Below w.heap.size w wr from by
        obtain ⟨M, N, _⟩ := HW.out
        exact N.kept.below (Nat.le_refl _) (fun k hk h => by omega))
      clear hlt
      go_wp2_with fail
      go_ret
      exact ⟨rfl, HE.out⟩
end Go.Proofs.Ytogagkgkmoppmaa
