/-
  Two messages, as the monitor compares them; the monitor's breaks, Broken, First, Len.
  Conditions: those that each theorem names.
-/
import Derived.Test.YtogagkgkmoppmaaMonB
namespace Go.Proofs.Ytogagkgkmoppmaa
set_option linter.unusedVariables false
set_option linter.unusedSimpArgs false
open Go.RowKit
/-- a message that can be read -/
structure MsgR (w : World) (m : Msg) : Prop where
  ds : RdU w m.da m.ds
  len : m.ds.length ≤ 9223372036854775807
theorem MsgR.below {w w' : World} {m : Msg} (h : MsgR w m) (hb : Below w.heap.size w w') : MsgR w' m := ⟨h.ds.below hb, h.len⟩
set_option maxHeartbeats 8000000 in
theorem same_any (a b : Msg) (w : World) (ha : MsgR w a) (hb : MsgR w b) :
    Calls Try.prog 34 #[.agg (msgA a), .agg (msgA b)] w fun e w' => e = .returned (.bool (sameM a b)) ∧ Below w.heap.size w w' := by
  obtain ⟨ha, hal⟩ := ha
  obtain ⟨hb, hbl⟩ := hb
  obtain ⟨R, hR⟩ : ∃ R, R = sameM a b := ⟨_, rfl⟩
  rw [← hR]
  unfold sameM at hR
  unfold msgA
  obtain ⟨a0, a1, a2, a3, xs, a5, aa, ac⟩ := a
  obtain ⟨b0, b1, b2, b3, ys, b5, bb, bc⟩ := b
  simp only at ha hb hal hbl hR ⊢
  have hbel : Below w.heap.size w ((w.alloc (.cells #[.int .i64 a0, .int .u32 (a1 : Int), .int .u64 (a2 : Int), .int .i64 a3, .slice aa xs.length ac, .string a5] 34)).alloc (.cells #[.int .i64 b0, .int .u32 (b1 : Int), .int .u64 (b2 : Int), .int .i64 b3, .slice bb ys.length bc, .string b5] 34)) := ba (ba (br w) _) _
  have HW := Lib.hid hbel
  have HR := Lib.hid hR
  have HE := Lib.hid (eqU_any aa bb ac bc xs ys _ (ha.below hbel) (hb.below hbel) hal hbl)
  have HL := Lib.hid (show R = decide (a0 = b0 ∧ a1 = b1 ∧ a2 = b2 ∧ a3 = b3 ∧ a5 = b5 ∧ xs = ys) from hR)
  clear ha hb hal hbl hbel hR
  by_cases e0 : a0 = b0
  · subst e0
    by_cases e1 : a1 = b1
    · subst e1
      by_cases e2 : a2 = b2
      · subst e2
        by_cases e3 : a3 = b3
        · subst e3
          by_cases e5 : a5 = b5
          · subst e5
            have hRt : R = decide (xs = ys) := by rw [HR.out]; simp
            clear HR HL
            rw [← hRt] at HE
            clear hRt
            have hs : (a5.toList == a5.toList) = true := by simp
            go_enter Try.func34, Try.ntmps34
            go_wp2_with fail
            refine HE.out.mono ?_
            rintro e w1 ⟨rfl, hb1⟩
            have hb2 := bt HW.out hb1
            clear hb1 HE
            go_wp2_with fail
            go_ret
            exact ⟨rfl, hb2⟩
          · have d5 : (a5.toList == b5.toList) = false := (Lib.bytes_beq_false_iff _ _).2 e5
            have hRf : R = false := by rw [HR.out]; exact decide_eq_false fun h => e5 h.2.2.2.2.1
            subst hRf
            clear HE
            go_enter Try.func34, Try.ntmps34
            go_wp2
            go_ret
            exact ⟨rfl, HW.out⟩
        · have d5 : (a3 == b3) = false := by simpa using e3
          have hRf : R = false := by rw [HR.out]; exact decide_eq_false fun h => e3 h.2.2.2.1
          subst hRf
          clear HE
          go_enter Try.func34, Try.ntmps34
          go_wp2
          go_ret
          exact ⟨rfl, HW.out⟩
      · have d5 : ((a2 : Int) == (b2 : Int)) = false := by simp; omega
        have hRf : R = false := by rw [HR.out]; exact decide_eq_false fun h => e2 h.2.2.1
        subst hRf
        clear HE
        go_enter Try.func34, Try.ntmps34
        go_wp2
        go_ret
        exact ⟨rfl, HW.out⟩
    · have d5 : ((a1 : Int) == (b1 : Int)) = false := by simp; omega
      have hRf : R = false := by rw [HR.out]; exact decide_eq_false fun h => e1 h.2.1
      subst hRf
      clear HE
      go_enter Try.func34, Try.ntmps34
      go_wp2
      go_ret
      exact ⟨rfl, HW.out⟩
  · have d5 : (a0 == b0) = false := by simpa using e0
    have hRf : R = false := by rw [HR.out]; exact decide_eq_false fun h => e0 h.1
    subst hRf
    clear HE
    go_enter Try.func34, Try.ntmps34
    go_wp2
    go_ret
    exact ⟨rfl, HW.out⟩
end Go.Proofs.Ytogagkgkmoppmaa
