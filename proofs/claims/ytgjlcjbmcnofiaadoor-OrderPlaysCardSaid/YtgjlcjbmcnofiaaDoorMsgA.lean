/-
  Messages as values; what the reference's Same returns.
  Conditions: none.
-/
import Derived.Test.YtgjlcjbmcnofiaaDoorProg
import Derived.Test.YtgjlcjbmcnofiaaDoorBase
import Derived.Test.YtgjlcjbmcnofiaaDoorTail
import Derived.Test.YtgjlcjbmcnofiaaDoorKept
import Derived.Lib.SlicesS
namespace Go.Proofs.YtgjlcjbmcnofiaaDoor
set_option linter.unusedVariables false
open Go.RowKit
/-- a message's cells; ds: what its vector reads as -/
structure Msg where
  frm : Int
  seq : Nat
  stamp : Nat
  service : Int
  ds : List Nat
  pay : ByteArray
  da : Option Addr
  dc : Nat
instance : Inhabited Msg := ⟨⟨0, 0, 0, 0, [], ⟨#[]⟩, none, 0⟩⟩
def msgA (m : Msg) : Array Value := #[.int .i64 m.frm, .int .u32 (m.seq : Int), .int .u64 (m.stamp : Int), .int .i64 m.service, .slice m.da m.ds.length m.dc, .string m.pay]
def MsgOk (w : World) (m : Msg) : Prop := m.ds.length ≤ 9223372036854775807 ∧ m.pay.size ≤ 9223372036854775807 ∧ m.seq < 4294967296 ∧ m.stamp < 18446744073709551616 ∧
  ∀ i (h : i < m.ds.length), ∃ B O, m.da = some ⟨B, O, none⟩ ∧ B < w.heap.size ∧ w.cell? ⟨B, O + i, none⟩ = some (.int .u32 (m.ds[i] : Int))
theorem MsgOk.kept {w w' : World} {m : Msg} {S : Nat → Prop} (h : MsgOk w m) (hk : Kept S w w') (hS : ∀ ad, m.da = some ad → 0 < m.ds.length → ¬ S ad.block) : MsgOk w' m := by
  obtain ⟨h1, h2, h3, h4, h5⟩ := h
  refine ⟨h1, h2, h3, h4, fun i hi => ?_⟩
  obtain ⟨B, O, e, hB, hc⟩ := h5 i hi
  exact ⟨B, O, e, Nat.lt_of_lt_of_le hB hk.size, (hk.cell (p := ⟨B, O + i, none⟩) hB (hS ⟨B, O, none⟩ e (by omega))).trans hc⟩
theorem MsgOk.below {w w' : World} {m : Msg} (h : MsgOk w m) (hb : Below w.heap.size w w') : MsgOk w' m := h.kept (S := fun _ => False) (.of_below hb) (fun _ _ _ h => h)
/-- two messages that read the same -/
def sameM (a b : Msg) : Bool := decide (a.frm = b.frm ∧ a.seq = b.seq ∧ a.stamp = b.stamp ∧ a.service = b.service ∧ a.pay = b.pay ∧ a.ds = b.ds)
theorem sameM_self (a : Msg) : sameM a a = true := by simp [sameM]
theorem after2w {w w1 : World} {A B : Array Value} {t t' : TypeId} (hb : Below ((w.alloc (.cells A t)).alloc (.cells B t')).heap.size ((w.alloc (.cells A t)).alloc (.cells B t')) w1) :
    w1.heap[w.heap.size]? = some (.cells A t (0, 0)) ∧ w1.heap[w.heap.size + 1]? = some (.cells B t' (0, 0)) :=
  ⟨(hb.block w.heap.size (by simp; omega)).trans (heap_alloc2_old w _ _), (hb.block (w.heap.size + 1) (by simp)).trans (heap_alloc2_new w _ _)⟩
set_option maxHeartbeats 4000000 in
theorem Same_any (a b : Msg) (w : World) (ha : MsgOk w a) (hb : MsgOk w b) :
    Calls Tryd.prog 37 #[.agg (msgA a), .agg (msgA b)] w fun e w' => e = .returned (.bool (sameM a b)) ∧ Below w.heap.size w w' := by
  obtain ⟨ha1, ha2, ha3, ha4, ha5⟩ := ha
  obtain ⟨hb1, hb2, hb3, hb4, hb5⟩ := hb
  have hno : ∀ {r}, r = false → ∀ w', Below w.heap.size w w' → (Ending.returned (Value.bool false) = .returned (.bool r) ∧ Below w.heap.size w w') := by rintro r rfl w' h; exact ⟨rfl, h⟩
  obtain ⟨R, hR⟩ : ∃ R, R = sameM a b := ⟨_, rfl⟩
  rw [← hR]
  unfold sameM at hR
  unfold msgA
  obtain ⟨a0, a1, a2, a3, xs, a5, aa, ac⟩ := a
  obtain ⟨b0, b1, b2, b3, bs_, b5, bb, bc⟩ := b
  simp only at ha1 ha2 ha3 ha4 ha5 hb1 hb2 hb3 hb4 hb5 hR ⊢
  have HA := Lib.hid ha5
  have HB := Lib.hid hb5
  have hbel : Below w.heap.size w ((w.alloc (.cells #[.int .i64 a0, .int .u32 (a1 : Int), .int .u64 (a2 : Int), .int .i64 a3, .slice aa xs.length ac, .string a5] 42)).alloc (.cells #[.int .i64 b0, .int .u32 (b1 : Int), .int .u64 (b2 : Int), .int .i64 b3, .slice bb bs_.length bc, .string b5] 42)) := ba (ba (br _) _) _
  have HW := Lib.hid hbel
  have HR := Lib.hid hR
  clear ha5 hb5 hbel hR
  by_cases e0 : a0 = b0
  · subst e0
    by_cases e1 : a1 = b1
    · subst e1
      by_cases e2 : a2 = b2
      · subst e2
        by_cases e3 : a3 = b3
        · subst e3
          by_cases e5 : a5 = b5
          · subst e5
            by_cases e4 : xs.length = bs_.length
            · have d4 : ((xs.length : Int) == (bs_.length : Int)) = true := by simp; omega
              have d4' : ((xs.length : Int) != (bs_.length : Int)) = false := by simp; omega
              have f4 : xs.length ≤ bs_.length := by omega
              have f4' : bs_.length ≤ xs.length := by omega
              clear e4
              go_enter Tryd.func37, Tryd.ntmps37
              go_wp2
              go_loopw [5] (fun i wr => ∃ k : Nat, k ≤ xs.length ∧ i = .int .i64 (k : Int) ∧ xs.take k = bs_.take k ∧ Below ((w.alloc (.cells #[.int .i64 a0, .int .u32 (a1 : Int), .int .u64 (a2 : Int), .int .i64 a3, .slice aa xs.length ac, .string a5] 42)).alloc (.cells #[.int .i64 a0, .int .u32 (a1 : Int), .int .u64 (a2 : Int), .int .i64 a3, .slice bb bs_.length bc, .string a5] 42)).heap.size ((w.alloc (.cells #[.int .i64 a0, .int .u32 (a1 : Int), .int .u64 (a2 : Int), .int .i64 a3, .slice aa xs.length ac, .string a5] 42)).alloc (.cells #[.int .i64 a0, .int .u32 (a1 : Int), .int .u64 (a2 : Int), .int .i64 a3, .slice bb bs_.length bc, .string a5] 42)) wr) (fun i _ => xs.length - (intOf i).toNat)
              case atStart => exact ⟨0, by omega, rfl, rfl, br _⟩
              case round =>
                obtain ⟨k, hk, rfl, htk, hbr⟩ := hrel
                have HT := Lib.hid htk
                have hbw := bt HW.out hbr
                obtain ⟨x0, x1⟩ := after2w hbr
                have HBW := Lib.hid (And.intro hbw hbr)
                have c4 : wr.cell? ⟨w.heap.size, 4, none⟩ = some (.slice aa xs.length ac) := cell_of_row _ _ 4 _ _ _ x0
                have d4s : wr.cell? ⟨w.heap.size + 1, 4, none⟩ = some (.slice bb bs_.length bc) := cell_of_row _ _ 4 _ _ _ x1
                clear htk hbr x0 x1
                by_cases hlt : k < xs.length
                · have hd : decide ((k : Int) < (xs.length : Int)) = true := by simpa using hlt
                  have hlt2 : k < bs_.length := by omega
                  have hi1 : (k : Int) < (xs.length : Int) := by omega
                  have hi2 : (k : Int) < (bs_.length : Int) := by omega
                  obtain ⟨B, O, rfl, hB, hc⟩ := HA.out k hlt
                  obtain ⟨B', O', rfl, hB', hc'⟩ := HB.out k hlt2
                  have y0 := (hbw.cell (p := ⟨B, O + k, none⟩) hB).trans hc
                  have y1 := (hbw.cell (p := ⟨B', O' + k, none⟩) hB').trans hc'
                  have ht := Lib.hid (And.intro (List.take_succ_eq_append_getElem hlt) (List.take_succ_eq_append_getElem hlt2))
                  clear hc hc' hbw
                  by_cases he : xs[k] = bs_[k]
                  · have g1 : ((xs[k] : Int) == (bs_[k] : Int)) = true := by simp; omega
                    have g2 : ((xs[k] : Int) != (bs_[k] : Int)) = false := by simp; omega
                    have HE := Lib.hid he
                    clear he
                    go_wp2
                    go_quiet (fail)
                    go_wp2
                    exact ⟨⟨k + 1, by omega, by go_num, by rw [ht.out.1, ht.out.2, HT.out, HE.out], bn HBW.out.2 _⟩, by simp [intOf]; omega⟩
                  · have g1 : ((xs[k] : Int) == (bs_[k] : Int)) = false := by simp; omega
                    have g2 : ((xs[k] : Int) != (bs_[k] : Int)) = true := by simp; omega
                    have hRf : R = false := by
                      rw [HR.out]
                      refine decide_eq_false fun h => he ?_
                      have := h.2.2.2.2.2
                      subst this
                      rfl
                    subst hRf
                    clear he
                    go_wp2
                    go_quiet (fail)
                    go_wp2
                    go_ret
                    exact ⟨rfl, bn HBW.out.1 _⟩
                · have hd : decide ((k : Int) < (xs.length : Int)) = false := by simpa using hlt
                  have hRt : R = true := by
                    have hds := HT.out
                    rw [List.take_of_length_le (by omega), List.take_of_length_le (by omega)] at hds
                    rw [HR.out]
                    simp [hds]
                  subst hRt
                  go_wp2
                  go_ret
                  exact ⟨rfl, HBW.out.1⟩
            · have d4 : ((xs.length : Int) == (bs_.length : Int)) = false := by simp; omega
              have d4' : ((xs.length : Int) != (bs_.length : Int)) = true := by simp; omega
              have hRf : R = false := by rw [HR.out]; exact decide_eq_false fun h => e4 (by rw [h.2.2.2.2.2])
              subst hRf
              go_enter Tryd.func37, Tryd.ntmps37
              go_wp2
              go_ret
              exact ⟨rfl, HW.out⟩
          · have d5 : (a5.toList == b5.toList) = false := (Lib.bytes_beq_false_iff _ _).2 e5
            have hRf : R = false := by rw [HR.out]; exact decide_eq_false fun h => e5 h.2.2.2.2.1
            subst hRf
            go_enter Tryd.func37, Tryd.ntmps37
            go_wp2
            go_ret
            exact ⟨rfl, HW.out⟩
        · have d5 : (a3 == b3) = false := by simpa using e3
          have d5' : (a3 != b3) = true := by simpa using e3
          have hRf : R = false := by rw [HR.out]; exact decide_eq_false fun h => e3 h.2.2.2.1
          subst hRf
          go_enter Tryd.func37, Tryd.ntmps37
          go_wp2
          go_ret
          exact ⟨rfl, HW.out⟩
      · have d5 : ((a2 : Int) == (b2 : Int)) = false := by simp; omega
        have d5' : ((a2 : Int) != (b2 : Int)) = true := by simp; omega
        have hRf : R = false := by rw [HR.out]; exact decide_eq_false fun h => e2 h.2.2.1
        subst hRf
        go_enter Tryd.func37, Tryd.ntmps37
        go_wp2
        go_ret
        exact ⟨rfl, HW.out⟩
    · have d5 : ((a1 : Int) == (b1 : Int)) = false := by simp; omega
      have d5' : ((a1 : Int) != (b1 : Int)) = true := by simp; omega
      have hRf : R = false := by rw [HR.out]; exact decide_eq_false fun h => e1 h.2.1
      subst hRf
      go_enter Tryd.func37, Tryd.ntmps37
      go_wp2
      go_ret
      exact ⟨rfl, HW.out⟩
  · have d5 : (a0 == b0) = false := by simpa using e0
    have d5' : (a0 != b0) = true := by simpa using e0
    have hRf : R = false := by rw [HR.out]; exact decide_eq_false fun h => e0 h.1
    subst hRf
    go_enter Tryd.func37, Tryd.ntmps37
    go_wp2
    go_ret
    exact ⟨rfl, HW.out⟩
end Go.Proofs.YtgjlcjbmcnofiaaDoor
