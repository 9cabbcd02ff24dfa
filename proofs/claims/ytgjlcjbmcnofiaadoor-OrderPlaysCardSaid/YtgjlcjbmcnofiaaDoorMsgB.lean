/-
  Slices of messages; what the reference's All and the laws' Few return; an argument that is such a slice.
  Conditions: none.
-/
import Derived.Test.YtgjlcjbmcnofiaaDoorMsgA
import Derived.Test.YtgjlcjbmcnofiaaDoorChecked
import Derived.Deep.Slices
import Derived.Deep.Fields
import Derived.ChangeSame
import Derived.Lib.SmallJoins
namespace Go.Proofs.YtgjlcjbmcnofiaaDoor
set_option linter.unusedVariables false
open Go.RowKit
def MsgsAt (w : World) (v : Value) (l : List Msg) : Prop := ∃ ad cap, v = .slice ad l.length cap ∧ l.length ≤ 9223372036854775807 ∧
  ∀ i (h : i < l.length), ∃ B O, ad = some ⟨B, O, none⟩ ∧ B < w.heap.size ∧ w.rangeAt B (O + i * 6) (msgA l[i]).toList ∧ MsgOk w l[i]
theorem MsgsAt.below {w w' : World} {v : Value} {l : List Msg} (h : MsgsAt w v l) (hb : Below w.heap.size w w') : MsgsAt w' v l := by
  obtain ⟨ad, cap, rfl, hl, h⟩ := h
  refine ⟨ad, cap, rfl, hl, fun i hi => ?_⟩
  obtain ⟨B, O, rfl, hB, hr, h1⟩ := h i hi
  exact ⟨B, O, rfl, Nat.lt_of_lt_of_le hB hb.size, fun j u hu => (hb.cell (p := ⟨B, O + i * 6 + j, none⟩) hB).trans (hr j u hu), h1.below hb⟩
theorem MsgsAt.nil (w : World) : MsgsAt w (.slice none 0 0) [] := ⟨none, 0, rfl, by simp, fun i h => absurd h (by simp)⟩
def allM : List Msg → List Msg → Bool
  | [], [] => true
  | a :: x, b :: y => sameM a b && allM x y
  | _, _ => false
theorem allM_len : ∀ x y : List Msg, x.length ≠ y.length → allM x y = false
  | [], [], h => absurd rfl h
  | [], b :: y, _ => rfl
  | a :: x, [], _ => rfl
  | a :: x, b :: y, h => by
    rw [allM, allM_len x y (by simpa using h)]
    simp
theorem allM_self : ∀ x : List Msg, allM x x = true
  | [] => rfl
  | a :: x => by rw [allM, sameM_self, allM_self x]; rfl
theorem same_cells (a b : Msg) (w : World) (ha : MsgOk w a) (hb : MsgOk w b) :
    Calls Tryd.prog 37 #[.agg (msgA a).toList.toArray, .agg (msgA b).toList.toArray] w fun e w' => e = .returned (.bool (sameM a b)) ∧ Below w.heap.size w w' := Same_any a b w ha hb
set_option maxHeartbeats 2000000 in
theorem All_any (u v : Value) (x y : List Msg) (w : World) (hx : MsgsAt w u x) (hy : MsgsAt w v y) :
    Calls Tryd.prog 11 #[u, v] w fun e w' => e = .returned (.bool (allM x y)) ∧ Below w.heap.size w w' := by
  have HX := Lib.hid hx
  have HY := Lib.hid hy
  obtain ⟨ad, cap, rfl, hl, hc⟩ := hx
  obtain ⟨ad', cap', rfl, hl', hc'⟩ := hy
  have HC := Lib.hid hc
  have HC' := Lib.hid hc'
  clear hc hc'
  by_cases hne : x.length = y.length
  · have d1 : ((x.length : Int) == (y.length : Int)) = true := by simp; omega
    have d1' : ((x.length : Int) != (y.length : Int)) = false := by simp; omega
    have hle : x.length ≤ y.length := by omega
    have hge : y.length ≤ x.length := by omega
    clear hne
    obtain ⟨R, hR⟩ : ∃ R, R = allM x y := ⟨_, rfl⟩
    rw [← hR]
    have HR := Lib.hid hR
    clear hR
    go_enter Tryd.func11, Tryd.ntmps11
    go_wp2
    go_loopw [5] (fun i wr => ∃ k : Nat, k ≤ x.length ∧ i = .int .i64 (k : Int) ∧ allM (x.drop k) (y.drop k) = R ∧ Below w.heap.size w wr) (fun i _ => x.length - (intOf i).toNat)
    case atStart => exact ⟨0, by omega, rfl, HR.out.symm, br _⟩
    case round =>
      obtain ⟨k, hk, rfl, hf, hbr⟩ := hrel
      by_cases hlt : k < x.length
      · have hd : decide ((k : Int) < (x.length : Int)) = true := by simpa using hlt
        have hlt' : k < y.length := by omega
        have hi1 : (k : Int) < (x.length : Int) := by omega
        have hi2 : (k : Int) < (y.length : Int) := by omega
        obtain ⟨B, O, rfl, hB, hr, hm⟩ := HC.out k hlt
        obtain ⟨B', O', rfl, hB', hr', hm'⟩ := HC'.out k hlt'
        rw [List.drop_eq_getElem_cons hlt, List.drop_eq_getElem_cons hlt', allM] at hf
        have r1 : wr.rangeAt B (O + k * 6) (msgA x[k]).toList := fun j q hq => (hbr.cell (p := ⟨B, O + k * 6 + j, none⟩) hB).trans (hr j q hq)
        have r2 : wr.rangeAt B' (O' + k * 6) (msgA y[k]).toList := fun j q hq => (hbr.cell (p := ⟨B', O' + k * 6 + j, none⟩) hB').trans (hr' j q hq)
        have R1 := Lib.hid (Bel.range r1 (Nat.lt_of_lt_of_le hB hbr.size))
        have R2 := Lib.hid (Bel.range r2 (Nat.lt_of_lt_of_le hB' hbr.size))
        have hsame : ∀ z : Bel wr, Calls Tryd.prog 37 #[.agg (msgA x[k]).toList.toArray, .agg (msgA y[k]).toList.toArray] z.val fun e w' => e = .returned (.bool (sameM x[k] y[k])) ∧ Below z.val.heap.size z.val w' :=
          fun z => same_cells _ _ _ ((hm.below hbr).below z.prop) ((hm'.below hbr).below z.prop)
        have HB := Lib.hid hbr
        clear hr hr' r1 r2 hm hm' hbr
        generalize x[k] = a at *
        generalize y[k] = b at *
        cases hs : sameM a b
        · rw [hs] at hsame hf
          have HS := Lib.hid hsame
          have hRf : R = false := by rw [← hf]; rfl
          subst hRf
          clear hsame hf hs
          go_wp2_with fail
          refine wp_region_bel (by kernel_rfl) (by kernel_rfl) ?_
          repeat (first
            | (refine wpQuiet_load_mid rfl 42 (.tmp 19) rfl B (O + k * 6) rfl (msgA a).toList _ R1.out Tryd.underlying42 rfl (by kernel_rfl) ?_; go_simp)
            | (refine wpQuiet_load_mid rfl 42 (.tmp 23) rfl B' (O' + k * 6) rfl (msgA b).toList _ R2.out Tryd.underlying42 rfl (by kernel_rfl) ?_; go_simp)
            | go_big_quiet_step ((go_at_call 37; exact bel_call (HS.out _))))
          refine wpQuiet_nil ?_
          intro x5
          have hb5 := bt HB.out x5.prop
          generalize x5.val = w5 at *
          go_wp2
          go_ret
          exact ⟨rfl, hb5⟩
        · rw [hs] at hsame hf
          have HS := Lib.hid hsame
          have HF := Lib.hid (show allM (x.drop (k + 1)) (y.drop (k + 1)) = R from by rw [← hf]; rfl)
          clear hsame hf hs
          go_wp2_with fail
          refine wp_region_bel (by kernel_rfl) (by kernel_rfl) ?_
          repeat (first
            | (refine wpQuiet_load_mid rfl 42 (.tmp 19) rfl B (O + k * 6) rfl (msgA a).toList _ R1.out Tryd.underlying42 rfl (by kernel_rfl) ?_; go_simp)
            | (refine wpQuiet_load_mid rfl 42 (.tmp 23) rfl B' (O' + k * 6) rfl (msgA b).toList _ R2.out Tryd.underlying42 rfl (by kernel_rfl) ?_; go_simp)
            | go_big_quiet_step ((go_at_call 37; exact bel_call (HS.out _))))
          refine wpQuiet_nil ?_
          intro x5
          have hb5 := bt HB.out x5.prop
          generalize x5.val = w5 at *
          go_wp2
          exact ⟨⟨k + 1, by omega, by go_num, HF.out, hb5⟩, by simp [intOf]; omega⟩
      · have hd : decide ((k : Int) < (x.length : Int)) = false := by simpa using hlt
        have hRt : R = true := by
          rw [← hf, List.drop_eq_nil_of_le (by omega), List.drop_eq_nil_of_le (by omega)]
          rfl
        subst hRt
        clear hf
        go_wp2
        go_ret
        exact ⟨rfl, hbr⟩
  · have d1 : ((x.length : Int) == (y.length : Int)) = false := by simp; omega
    have d1' : ((x.length : Int) != (y.length : Int)) = true := by simp; omega
    rw [allM_len x y hne]
    clear hne
    go_enter Tryd.func11, Tryd.ntmps11
    go_wp2
    go_ret
    exact ⟨rfl, br _⟩
end Go.Proofs.YtgjlcjbmcnofiaaDoor
