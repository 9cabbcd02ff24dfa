/-
  A trace that came in; which traces are gone through.
  Conditions: those that each theorem names.
-/
import Derived.Test.YtogagkgkmoppmaaMonS
import Derived.Test.YtogagkgkmoppmaaMonT
namespace Go.Proofs.Ytogagkgkmoppmaa
set_option linter.unusedVariables false
set_option linter.unusedSimpArgs false
open Go.RowKit GM
theorem reads_moreE {w : World} {B B' s n : Nat} {ad : Option Addr} {xs : List Value} (h : Reads w B s ad n xs) (hb : B ≤ B') : Reads w B' s ad n xs :=
  ⟨h.1, fun hn => by
    obtain ⟨p, e, hp, hc⟩ := h.2 hn
    exact ⟨p, e, Nat.lt_of_lt_of_le hp hb, hc⟩⟩
/-- an event that came in: what lies behind it -/
structure EvOk (w : World) (x : Ev) : Prop where
  rd : Reads w w.heap.size 1 x.m.da x.m.ds.length (numsM x.m.ds)
  ds : ∀ q ∈ x.m.ds, q < 4294967296
  dl : x.m.ds.length ≤ 35184372087808
  pay : x.m.pay.size ≤ 140737488351232
  st : x.st.size ≤ 140737488351232
  nl : x.nl ≤ 140737488351232
def EvsAt (w : World) (ad : Option Addr) (l : List Ev) : Prop := l.length ≤ 140737488351232 ∧ ∀ i (hi : i < l.length), ∃ b o, ad = some ⟨b, o, none⟩ ∧ b < w.heap.size ∧ w.rangeAt b (o + i * 19) (evA l[i]).toList ∧ EvOk w l[i]
theorem EvOk.below {w w' : World} {x : Ev} (h : EvOk w x) (hb : Below w.heap.size w w') : EvOk w' x := ⟨reads_moreE (h.rd.below hb) hb.size, h.ds, h.dl, h.pay, h.st, h.nl⟩
theorem EvsAt.below {w w' : World} {ad : Option Addr} {l : List Ev} (h : EvsAt w ad l) (hb : Below w.heap.size w w') : EvsAt w' ad l := by
  refine ⟨h.1, fun i hi => ?_⟩
  obtain ⟨b, o, e, hB, hr, hk⟩ := h.2 i hi
  exact ⟨b, o, e, Nat.lt_of_lt_of_le hB hb.size, fun j u hu => (hb.cell (p := ⟨b, o + i * 19 + j, none⟩) hB).trans (hr j u hu), hk.below hb⟩
def FewEnd (l : List Ev) (e : Ending) : Prop := ∃ b, e = .returned (.bool b) ∧ (b = true → l.length ≤ 500)
set_option maxRecDepth 100000 in
set_option maxHeartbeats 8000000 in
theorem few_any (w : World) (ad : Option Addr) (cap : Nat) (l : List Ev) (h : EvsAt w ad l) : Calls Try.prog 7 #[.slice ad l.length cap] w fun e w' => FewEnd l e ∧ Below w.heap.size w w' := by
  have HL := Lib.hid h
  have hll := h.1
  obtain ⟨n, hn⟩ : ∃ n, n = l.length := ⟨_, rfl⟩
  rw [← hn] at hll ⊢
  have HN := Lib.hid hn
  clear h hn
  go_enter Try.func7, Try.ntmps7
  go_wp2_with fail
  go_loopw [3, 4] (fun v i wr => ∃ (k : Nat) (y : Int), k ≤ n ∧ k ≤ 500 ∧ i = .int .i64 (k : Int) ∧ v = .int .i64 y ∧ 0 ≤ y ∧ y ≤ 20000 ∧ Hid (Below w.heap.size w wr)) (fun _ i _ => n - (intOf i).toNat)
  case atStart => exact ⟨0, 0, by omega, by omega, rfl, rfl, by omega, by omega, br w⟩
  case round =>
    obtain ⟨k, y, hk, hk5, rfl, rfl, hy0, hy1, HW⟩ := hrel
    by_cases hlt : k < n
    · have hbool' : decide ((k : Int) < (n : Int)) = true := by rw [decide_eq_true_eq]; omega
      have hbool : decide (k < n) = true := by rw [decide_eq_true_eq]; omega
      have hki : (k : Int) < (n : Int) := by omega
      have hkl : k < l.length := by rw [← HN.out]; exact hlt
      obtain ⟨b, o, rfl, hB, hr, hok⟩ := (HL.out.below HW.out).2 k hkl
      obtain ⟨x, hx⟩ : ∃ x, x = l[k] := ⟨_, rfl⟩
      rw [← hx] at hr hok
      have d12 := Bel.cell (show wr.cell? ⟨b, o + k * 19 + 12, none⟩ = some (.string x.m.pay) from hr 12 _ rfl) hB
      have d11 := Bel.cell (show wr.cell? ⟨b, o + k * 19 + 11, none⟩ = some (.slice x.m.da x.m.ds.length x.m.dc) from hr 11 _ rfl) hB
      have d17 := Bel.cell (show wr.cell? ⟨b, o + k * 19 + 17, none⟩ = some (.slice x.na x.nl x.nc) from hr 17 _ rfl) hB
      have d18 := Bel.cell (show wr.cell? ⟨b, o + k * 19 + 18, none⟩ = some (.string x.st) from hr 18 _ rfl) hB
      have h1 := hok.pay
      have h2 := hok.dl
      have h3 := hok.nl
      have h4 := hok.st
      have HLT := Lib.hid hlt
      clear hr hok hx hkl hB hlt
      generalize x.m.ds.length = dl at *
      generalize x.m.pay = pay at *
      generalize x.st = st at *
      generalize x.nl = nl at *
      go_upto_region 5 with (fail)
      go_cut [3] (fun s3 wx => ∃ z : Int, s3 = .int .i64 z ∧ 0 ≤ z ∧ z ≤ 40000 ∧ Below wr.heap.size wr wx)
      case first =>
        refine wp_region_bel (by kernel_rfl) (by kernel_rfl) ?_
        repeat (go_big_quiet_step ((fail)))
        refine wpQuiet_nil ?_
        intro w9 hw9
        have hb9 := Lib.hid (bel_out hw9)
        clear hw9 d11 d12 d17 d18
        have key : ∀ q : Nat, 0 ≤ (if (20000 : Int) < (q : Int) then 20000 else (q : Int)) ∧ (if (20000 : Int) < (q : Int) then 20000 else (q : Int)) ≤ 20000 := fun q => by split <;> omega
        obtain ⟨k1, k2⟩ := key pay.size
        obtain ⟨k3, k4⟩ := key dl
        obtain ⟨k5, k6⟩ := key nl
        obtain ⟨k7, k8⟩ := key st.size
        clear key h1 h2 h3 h4
        generalize (if (20000 : Int) < (pay.size : Int) then (20000 : Int) else (pay.size : Int)) = m1 at *
        generalize (if (20000 : Int) < (dl : Int) then (20000 : Int) else (dl : Int)) = m2 at *
        generalize (if (20000 : Int) < (nl : Int) then (20000 : Int) else (nl : Int)) = m3 at *
        generalize (if (20000 : Int) < (st.size : Int) then (20000 : Int) else (st.size : Int)) = m4 at *
        go_wp2_with fail
        go_meet
        exact ⟨_, rfl, by omega, by omega, hb9.out⟩
      case rest =>
      obtain ⟨z, rfl, hz0, hz1, hbx⟩ := hcut
      have HW2 := Lib.hid (bt HW.out hbx)
      clear d12 d11 d17 d18 h1 h2 h3 h4 hbx
      by_cases hc : k < 500 ∧ z ≤ 20000
      · have e1 : decide (500 ≤ (k : Int)) = false := by rw [decide_eq_false_iff_not]; omega
        have e2 : decide (20000 < z) = false := by rw [decide_eq_false_iff_not]; omega
        have HC := Lib.hid hc
        clear hc
        go_wp2_with fail
        exact ⟨⟨k + 1, z, HLT.out, HC.out.1, by go_num, rfl, hz0, HC.out.2, HW2⟩, measI HLT.out⟩
      · by_cases hk6 : k < 500
        · have e1 : decide (500 ≤ (k : Int)) = false := by rw [decide_eq_false_iff_not]; omega
          have e2 : decide (20000 < z) = true := by rw [decide_eq_true_eq]; omega
          clear hc hk6
          go_wp2_with fail
          go_ret
          exact ⟨⟨false, rfl, fun h => by cases h⟩, HW2.out⟩
        · have e1 : decide (500 ≤ (k : Int)) = true := by rw [decide_eq_true_eq]; omega
          clear hc hk6
          go_wp2_with fail
          go_ret
          exact ⟨⟨false, rfl, fun h => by cases h⟩, HW2.out⟩
    · have hbool' : decide ((k : Int) < (n : Int)) = false := by rw [decide_eq_false_iff_not]; omega
      have hbool : decide (k < n) = false := by rw [decide_eq_false_iff_not]; omega
      have HK := Lib.hid (show l.length ≤ 500 by rw [← HN.out]; omega)
      clear hlt
      go_wp2_with fail
      go_ret
      exact ⟨⟨true, rfl, fun _ => HK.out⟩, HW.out⟩
end Go.Proofs.Ytogagkgkmoppmaa
