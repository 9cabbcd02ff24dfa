/-
  The law JudgeBegins, ready for its row; what a row's listed table asks.
  Conditions: those that each theorem names.
-/
import Derived.Test.YtogagkgkmoppmaaGreatDoorZdF
import Derived.Test.YtogagkgkmoppmaaGreatDoorMonYZs
import Derived.Test.YtogagkgkmoppmaaGreatDoorRows
import Derived.ProofKit
import Derived.LaidMore
import Derived.OpenShut
import Derived.Stop.Joined
namespace Go.Proofs.YtogagkgkmoppmaaGreatDoor
set_option linter.unusedVariables false
set_option linter.unusedSimpArgs false
open Go.RowKit GM
/-- what is broken stays broken, by that rule or one ahead of it -/
theorem told_le (l : List Ev) : ∀ n, n ≤ l.length → Le (told (l.take n)).broken (told l).broken := by
  suffices ∀ d n, n + d = l.length → Le (told (l.take n)).broken (told l).broken from fun n hn => this (l.length - n) n (by omega)
  intro d
  induction d with
  | zero =>
    intro n hn
    rw [List.take_of_length_le (by omega)]
    exact .refl _
  | succ d ih =>
    intro n hn
    have e : told (l.take (n + 1)) = padd (told (l.take n)) l[n] := by rw [List.take_succ_eq_append_getElem (by omega), told_snoc]
    have h := (padd_added (told (l.take n)) l[n]).broken
    rw [← e] at h
    exact h.trans (ih (n + 1) (by omega))
set_option maxRecDepth 100000 in
set_option maxHeartbeats 16000000 in
theorem law_judgeBegins (w : World) (ad : Option Addr) (cap : Nat) (l : List Ev) (nm : Nat → List NameK) (cut : Int) (h : EvsAt w ad l) (hnm : NmAt w l nm) (hc : l.length ≤ cap) :
    Calls Tryz.prog 4 #[.slice ad l.length cap, .int .i64 cut] w fun e w' => e = .returned (.bool true) ∧ Below w.heap.size w w' := by
  have HL := Lib.hid (And.intro h (And.intro hnm hc))
  have hll := h.1
  obtain ⟨n, hn⟩ : ∃ n, n = l.length := ⟨_, rfl⟩
  have HA := Lib.hid (awake_any w)
  have HFW := Lib.hid (fun w1 (hb : Below w.heap.size w w1) => few_any w1 ad cap l (h.below hb))
  rw [← hn] at hll HFW ⊢
  have HN := Lib.hid hn
  clear h hnm hc hn
  go_enter Tryz.func4, Tryz.ntmps4
  go_wp2_with fail
  refine HA.out.mono ?_
  rintro e w1 ⟨rfl, hb1⟩
  have HF := Lib.hid (HFW.out w1 hb1)
  have HB1 := Lib.hid hb1
  clear hb1 HFW HA
  go_wp2_with fail
  refine HF.out.mono ?_
  rintro e w2 ⟨⟨b, rfl, hb⟩, hb2⟩
  have HB2 := Lib.hid (bt HB1.out hb2)
  clear hb2 HF
  cases b
  · clear hb
    go_wp2_with fail
    go_ret
    exact ⟨rfl, HB2.out⟩
  have hn5 : n ≤ 500 := by rw [HN.out]; exact hb rfl
  clear hb
  by_cases hneg : cut < 0
  · have d1 : decide (cut < 0) = true := by simpa using hneg
    clear hneg
    go_wp2_with fail
    go_ret
    exact ⟨rfl, HB2.out⟩
  have d1 : decide (cut < 0) = false := by simpa using hneg
  obtain ⟨k, rfl⟩ : ∃ k : Nat, cut = (k : Int) := ⟨cut.toNat, by omega⟩
  clear hneg
  by_cases hbig : n < k
  · have d2 : decide ((n : Int) < (k : Int)) = true := by rw [decide_eq_true_eq]; omega
    have d3 : decide (n < k) = true := by rw [decide_eq_true_eq]; omega
    clear hbig
    go_wp2_with fail
    go_ret
    exact ⟨rfl, HB2.out⟩
  have d2 : decide ((n : Int) < (k : Int)) = false := by rw [decide_eq_false_iff_not]; omega
  have d3 : decide (n < k) = false := by rw [decide_eq_false_iff_not]; omega
  have hkn : k ≤ n := by omega
  have hkc : k ≤ cap := Nat.le_trans hkn (by rw [HN.out]; exact HL.out.2.2)
  have hkc2 : (k : Int) ≤ (cap : Int) := by omega
  clear hbig
  have hle := told_le l k (by rw [← HN.out]; exact hkn)
  have HE := Lib.hid (fun (W : World) (hb : Below w2.heap.size w2 W) (j : Nat) (hj : j ≤ n) (c : Nat) => evs_take HL.out.1 HL.out.2.1 (by rw [← HN.out]; exact hn5) W (bt HB2.out hb) j (by rw [← HN.out]; exact hj) c)
  have HEn := Lib.hid (fun (W : World) (hb : Below w2.heap.size w2 W) => HE.out W hb n (Nat.le_refl _) cap)
  rw [show l.take n = l from List.take_of_length_le (by rw [HN.out]; exact Nat.le_refl _)] at HEn
  have HEk := Lib.hid (fun (W : World) (hb : Below w2.heap.size w2 W) => HE.out W hb k hkn cap)
  clear HE
  have hz0 := (told_nums l).1
  have hy0 := (told_nums (l.take k)).1
  generalize (told l).broken = z at *
  generalize (told (l.take k)).broken = y at *
  go_upto_region 5 with (fail)
  refine wp_region_bel_tail 6 (by kernel_rfl) (by kernel_rfl) ?_
  simp only [List.take_succ_cons, List.take_zero, List.drop_succ_cons, List.drop_zero]
  repeat (go_big_quiet_step ((go_at_call 7; rename_i y5; first | (with_reducible exact bel_call (HEn.out y5.val y5.prop)) | (with_reducible exact bel_call (HEk.out y5.val y5.prop)))))
  refine wpQuiet_nil ?_
  intro w3 hw3
  have HB3 := Lib.hid (bt HB2.out (bel_out hw3))
  clear hw3 HEn HEk hkc hkc2 d1 d2 d3
  by_cases hy : y = 0
  · subst hy
    go_wp2_with fail
    go_ret
    exact ⟨rfl, HB3.out⟩
  · have e1 : (y == 0) = false := by simpa using hy
    unfold Le at hle
    have e2 : decide (0 < z) = true := by rw [decide_eq_true_eq]; omega
    have e3 : decide (z ≤ y) = true := by rw [decide_eq_true_eq]; omega
    have e4 : 0 < z := by omega
    have e5 : z ≤ y := by omega
    clear hle hz0 hy0 hy
    go_wp2_with fail
    go_ret
    exact ⟨rfl, HB3.out⟩
section
open Go.ChangeShapes Go.WideShapes Go.ChangeAt Go.WideMaps Go.WideElems Go.Deep
def laidB : List (String × DataW Unit) := [("math/bits.deBruijn64tab", Rows.laid_math_bits_deBruijn64tab)]
theorem door_met (os : Os) (args : Array Value) : laidMetH Tryz.prog laidB ((World.doorLaid Tryz.prog 400 os).forCall (fun _ _ => 0) ⟨#[], args, []⟩).memory :=
  laidMetH_of_parts3 (fuel := 8) (laidMet_of_run' 8 (by kernel_rfl) (by kernel_rfl)) (by kernel_rfl) (by kernel_rfl)
variable {H : Type} {enc : TypeId × Value → H} {base : Nat} {spare : Nat → Bool} {held : Bool}
set_option maxRecDepth 100000 in
theorem judgeBegins_row (v0 : Value) (a1 : Int) (W : World) {r : Go.Reach} {b0 : Nat} {d : DataW H} {p : List MemPlace}
    (hv : Value.okWide Tryz.prog W r b0 22 v0) (h0 : DataW.Trod enc Tryz.prog W base spare held 22 v0 d p) (hb : -9223372036854775808 ≤ a1 ∧ a1 ≤ 9223372036854775807)
    (hz : ∀ n ∈ d.weights Tryz.prog 22, n ≤ reachBytes) (hL : laidMetH Tryz.prog laidB W) :
    Calls Tryz.prog 4 #[v0, .int .i64 a1] W fun e w' => e = .returned (.bool true) ∧ Below W.heap.size W w' := by
  obtain ⟨ad, l, cap, nm, rfl, hp, hn, hc⟩ := evs_argN hv h0 hz
  exact law_judgeBegins W ad cap l nm a1 hp hn hc
end
end Go.Proofs.YtogagkgkmoppmaaGreatDoor
