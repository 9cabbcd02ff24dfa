/-
  The law KeyOrders.
  Conditions: none.
-/
import Derived.Test.YtodlmboagbjcbaaKeyN
import Derived.Test.YtodlmboagbjcbaaKeyL
import Derived.Test.YtodlmboagbjcbaaKeyG
namespace Go.Proofs.Ytodlmboagbjcbaa
set_option linter.unusedVariables false
set_option linter.unusedSimpArgs false
open Go.RowKit
theorem alloc4 (w : World) (A B C D : Obj) : ∀ W1, Below (((((w.alloc A).alloc B).alloc C).alloc D)).heap.size ((((w.alloc A).alloc B).alloc C).alloc D) W1 →
    (W1.heap[w.heap.size]? = some A ∧ W1.heap[w.heap.size + 1]? = some B ∧ W1.heap[w.heap.size + 1 + 1]? = some C ∧ W1.heap[w.heap.size + 1 + 1 + 1]? = some D) ∧ Below w.heap.size w W1 := by
  intro W1 hb
  have step : ∀ (W : World) (o O : Obj) (i : Nat), W.heap[i]? = some O → (W.alloc o).heap[i]? = some O := fun W o O i h => (Below.heap_alloc W o i (Array.getElem?_eq_some_iff.1 h).1).trans h
  have new : ∀ (W : World) (o : Obj) (n : Nat), W.heap.size = n → (W.alloc o).heap[n]? = some o := fun W o n h => by subst h; exact heap_alloc_new W o
  have up : ∀ (i : Nat) (O : Obj), ((((w.alloc A).alloc B).alloc C).alloc D).heap[i]? = some O → W1.heap[i]? = some O := fun i O h => (hb.block _ (Array.getElem?_eq_some_iff.1 h).1).trans h
  refine ⟨⟨up _ _ ?_, up _ _ ?_, up _ _ ?_, up _ _ ?_⟩, bt (ba (ba (ba (ba (br w) A) B) C) D) hb⟩
  · exact step _ _ _ _ (step _ _ _ _ (step _ _ _ _ (new _ _ _ rfl)))
  · exact step _ _ _ _ (step _ _ _ _ (new _ _ _ (by simp)))
  · exact step _ _ _ _ (new _ _ _ (by simp))
  · exact new _ _ _ (by simp)
set_option maxRecDepth 100000 in
set_option maxHeartbeats 8000000 in
theorem law_keyOrders (a1 a2 b1 b2 c1 c2 e1 e2 : Int) (l m : List (Int × Int)) (n : List Int) (ad md nd : Option Addr) (cap mcap ncap : Nat) (w : World) (h : Reads w w.heap.size 2 ad l.length (keysV l)) (hm : Reads w w.heap.size 2 md m.length (keysV m)) (hn : Reads w w.heap.size 1 nd n.length (n.map fun x => .int .u64 x)) (hx : ∀ x ∈ n, 0 ≤ x ∧ x ≤ 18446744073709551615) :
    Calls Try.prog 11 #[.agg #[.int .u64 a1, .int .i64 a2], .agg #[.int .u64 b1, .int .i64 b2], .agg #[.int .u64 c1, .int .i64 c2], .agg #[.int .u64 e1, .int .i64 e2], .slice ad l.length cap, .slice md m.length mcap, .slice nd n.length ncap] w fun e w' => e = .returned (.bool true) ∧ Below w.heap.size w w' := by
  have HR := Lib.hid h
  have HM := Lib.hid hm
  have HN := Lib.hid hn
  have HX := Lib.hid hx
  clear h hm hn hx
  go_enter Try.func11, Try.ntmps11
  go_wp2_with fail
  refine (awake03_any _).mono ?_
  rintro e w1 ⟨rfl, hb1⟩
  obtain ⟨⟨ha, hb, hc, hd⟩, hbw⟩ := alloc4 w _ _ _ _ w1 hb1
  have Ha := Lib.hid ha
  have Hb := Lib.hid hb
  have Hc := Lib.hid hc
  have Hd := Lib.hid hd
  have HBW := Lib.hid hbw
  clear ha hb hc hd hbw hb1
  by_cases h1 : 200 < l.length
  · have d1 : decide ((200 : Int) < (l.length : Int)) = true := by simp; omega
    have d1' : decide (200 < l.length) = true := by simp; omega
    go_wp2
    go_ret
    exact ⟨rfl, HBW.out⟩
  have d1 : decide ((200 : Int) < (l.length : Int)) = false := by simp; omega
  have d1' : decide (200 < l.length) = false := by simp; omega
  by_cases h2 : 200 < m.length
  · have d2 : decide ((200 : Int) < (m.length : Int)) = true := by simp; omega
    have d2' : decide (200 < m.length) = true := by simp; omega
    go_wp2
    go_ret
    exact ⟨rfl, HBW.out⟩
  have d2 : decide ((200 : Int) < (m.length : Int)) = false := by simp; omega
  have d2' : decide (200 < m.length) = false := by simp; omega
  by_cases h3 : 5000 < n.length
  · have d3 : decide ((5000 : Int) < (n.length : Int)) = true := by simp; omega
    have d3' : decide (5000 < n.length) = true := by simp; omega
    go_wp2
    go_ret
    exact ⟨rfl, HBW.out⟩
  have d3 : decide ((5000 : Int) < (n.length : Int)) = false := by simp; omega
  have d3' : decide (5000 < n.length) = false := by simp; omega
  go_wp2_with fail
  have HBL := Lib.hid (show l.length ≤ 1000000 ∧ m.length ≤ 1000000 ∧ n.length ≤ 1000000 from ⟨by omega, by omega, by omega⟩)
  have qa0 := Bel.cell (cell_of_row _ _ 0 _ _ _ Ha.out : w1.cell? ⟨w.heap.size, 0, none⟩ = some (.int .u64 a1)) (Array.getElem?_eq_some_iff.1 Ha.out).1
  have qa1 := Bel.cell (cell_of_row _ _ 1 _ _ _ Ha.out : w1.cell? ⟨w.heap.size, 1, none⟩ = some (.int .i64 a2)) (Array.getElem?_eq_some_iff.1 Ha.out).1
  have qb0 := Bel.cell (cell_of_row _ _ 0 _ _ _ Hb.out : w1.cell? ⟨w.heap.size + 1, 0, none⟩ = some (.int .u64 b1)) (Array.getElem?_eq_some_iff.1 Hb.out).1
  have qb1 := Bel.cell (cell_of_row _ _ 1 _ _ _ Hb.out : w1.cell? ⟨w.heap.size + 1, 1, none⟩ = some (.int .i64 b2)) (Array.getElem?_eq_some_iff.1 Hb.out).1
  have qc0 := Bel.cell (cell_of_row _ _ 0 _ _ _ Hc.out : w1.cell? ⟨w.heap.size + 1 + 1, 0, none⟩ = some (.int .u64 c1)) (Array.getElem?_eq_some_iff.1 Hc.out).1
  have qc1 := Bel.cell (cell_of_row _ _ 1 _ _ _ Hc.out : w1.cell? ⟨w.heap.size + 1 + 1, 1, none⟩ = some (.int .i64 c2)) (Array.getElem?_eq_some_iff.1 Hc.out).1
  have qe0 := Bel.cell (cell_of_row _ _ 0 _ _ _ Hd.out : w1.cell? ⟨w.heap.size + 1 + 1 + 1, 0, none⟩ = some (.int .u64 e1)) (Array.getElem?_eq_some_iff.1 Hd.out).1
  have qe1 := Bel.cell (cell_of_row _ _ 1 _ _ _ Hd.out : w1.cell? ⟨w.heap.size + 1 + 1 + 1, 1, none⟩ = some (.int .i64 e2)) (Array.getElem?_eq_some_iff.1 Hd.out).1
  have z1 : (keyZ a1 a2 b1 b2 != keyZ a1 a2 b1 b2) = false := by simp
  have z2 : (keyZ c1 c2 e1 e2 != keyZ c1 c2 e1 e2) = false := by simp
  refine wp_region_bel (by kernel_rfl) (by kernel_rfl) ?_
  repeat (go_big_quiet_step ((first | (go_at_call 29; exact bel_call (kCmp_any _ _ _ _ _)) | (go_at_call 34; exact bel_call (rCmp_any _ _ _ _ _)) | (go_at_call 30; exact bel_call (kConf_any _ _ _ _ _)) | (go_at_call 35; exact bel_call (rConf_any _ _ _ _ _)))))
  refine wpQuiet_nil ?_
  intro w5 hw5
  obtain ⟨x5, rfl⟩ := hw5
  have HB5 := Lib.hid (bt HBW.out x5.prop)
  generalize x5.val = w5 at *
  clear qa0 qa1 qb0 qb1 qc0 qc1 qe0 qe1 z1 z2 HBW Ha Hb Hc Hd d1 d1' d2 d2' d3 d3' h1 h2 h3
  generalize keyZ a1 a2 b1 b2 = x at *
  generalize keyZ c1 c2 e1 e2 = y at *
  obtain ⟨⟨u1, u2⟩, hu⟩ : ∃ u, bestK l l.length = u := ⟨_, rfl⟩
  obtain ⟨⟨t1, t2⟩, ht⟩ : ∃ u, bestK m m.length = u := ⟨_, rfl⟩
  obtain ⟨s, hs⟩ : ∃ s, sumU (bestU n n.length) = s := ⟨_, rfl⟩
  have C1 := Lib.hid (show ∀ W, Below w.heap.size w W → Calls Try.prog 31 #[.slice ad l.length cap] W fun e w' => e = .returned (.agg #[.int .u64 u1, .int .i64 u2]) ∧ Below W.heap.size W w' from fun W hW => by
    have := kLast_any l ad cap W ((HR.out.below hW).more hW.size) HBL.out.1
    rwa [hu] at this)
  have C2 := Lib.hid (show ∀ W, Below w.heap.size w W → Calls Try.prog 36 #[.slice ad l.length cap] W fun e w' => e = .returned (.agg #[.int .u64 u1, .int .i64 u2]) ∧ Below W.heap.size W w' from fun W hW => by
    have := rLast_any l ad cap W ((HR.out.below hW).more hW.size) HBL.out.1
    rwa [hu] at this)
  have C3 := Lib.hid (show ∀ W, Below w.heap.size w W → Calls Try.prog 37 #[.slice md m.length mcap] W fun e w' => e = .returned (.agg #[.int .u64 t1, .int .i64 t2]) ∧ Below W.heap.size W w' from fun W hW => by
    have := kNewest_any m md mcap W ((HM.out.below hW).more hW.size) HBL.out.2.1
    rwa [ht] at this)
  have C4 := Lib.hid (show ∀ W, Below w.heap.size w W → Calls Try.prog 38 #[.slice md m.length mcap] W fun e w' => e = .returned (.agg #[.int .u64 t1, .int .i64 t2]) ∧ Below W.heap.size W w' from fun W hW => by
    have := rNewest_any m md mcap W ((HM.out.below hW).more hW.size) HBL.out.2.1
    rwa [ht] at this)
  have C5 := Lib.hid (show ∀ W, Below w.heap.size w W → Calls Try.prog 32 #[.slice nd n.length ncap] W fun e w' => e = .returned (.int .u64 s) ∧ W = w' from fun W hW => by
    have := kAbove_any n nd ncap W ((HN.out.below hW).more hW.size) HBL.out.2.2 HX.out
    rwa [hs] at this)
  have C6 := Lib.hid (show ∀ W, Below w.heap.size w W → Calls Try.prog 39 #[.slice nd n.length ncap] W fun e w' => e = .returned (.int .u64 s) ∧ W = w' from fun W hW => by
    have := rAbove_any n nd ncap W ((HN.out.below hW).more hW.size) HBL.out.2.2 HX.out
    rwa [hs] at this)
  clear hu ht hs HR HM HN HX HBL
  go_wp2_with fail
  refine (C1.out _ HB5.out).mono ?_
  rintro e w6 ⟨rfl, hb⟩
  have HB6 := Lib.hid (bt HB5.out hb)
  clear hb
  go_wp2_with fail
  refine (C2.out _ HB6.out).mono ?_
  rintro e w7 ⟨rfl, hb⟩
  have HB7 := Lib.hid (bt HB6.out hb)
  clear hb
  go_wp2_with fail
  refine (C3.out _ HB7.out).mono ?_
  rintro e w8 ⟨rfl, hb⟩
  have HB8 := Lib.hid (bt HB7.out hb)
  clear hb
  go_wp2_with fail
  refine (C4.out _ HB8.out).mono ?_
  rintro e w9 ⟨rfl, hb⟩
  have HB9 := Lib.hid (bt HB8.out hb)
  clear hb
  go_wp2_with fail
  refine (C5.out _ HB9.out).mono ?_
  rintro e w10 ⟨rfl, rfl⟩
  go_wp2_with fail
  refine (C6.out _ HB9.out).mono ?_
  rintro e w10 ⟨rfl, rfl⟩
  go_wp2
  go_ret
  exact ⟨rfl, HB9.out⟩
open Go.ChangeShapes Go.WideShapes Go.Deep in
theorem row_keyOrders {H : Type} {enc : TypeId × Value → H} {r : Reach} {p0 p1 p2 base base1 base2 : Nat} {spare spare1 spare2 : Nat → Bool} {held held1 held2 : Bool} {d d1 d2 : DataW H} {p q1 q2 : List MemPlace} (a1 a2 b1 b2 c1 c2 e1 e2 : Int) (v v1 v2 : Value) (W : World)
    (hv : Value.okWide Try.prog W r p0 67 v) (h : DataW.Trod enc Try.prog W base spare held 67 v d p) (hv1 : Value.okWide Try.prog W r p1 68 v1) (h1 : DataW.Trod enc Try.prog W base1 spare1 held1 68 v1 d1 q1) (hv2 : Value.okWide Try.prog W r p2 63 v2) (h2 : DataW.Trod enc Try.prog W base2 spare2 held2 63 v2 d2 q2) :
    Calls Try.prog 11 #[.agg #[.int .u64 a1, .int .i64 a2], .agg #[.int .u64 b1, .int .i64 b2], .agg #[.int .u64 c1, .int .i64 c2], .agg #[.int .u64 e1, .int .i64 e2], v, v1, v2] W fun e w' => e = .returned (.bool true) ∧ Below W.heap.size W w' := by
  obtain ⟨ad, cap, l, rfl, hr⟩ := keys_arg hv h
  obtain ⟨md, mcap, m, rfl, hm⟩ := confs_arg hv1 h1
  obtain ⟨nd, ncap, n, rfl, hn, hx⟩ := nums_arg hv2 h2
  exact law_keyOrders a1 a2 b1 b2 c1 c2 e1 e2 l m n ad md nd cap mcap ncap W hr hm hn hx
end Go.Proofs.Ytodlmboagbjcbaa
