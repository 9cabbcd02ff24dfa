/-
  What the key's Sort returns of two messages.
  Conditions: none.
-/
import Derived.Test.YtodlmboagbjcbaaKeyC
import Derived.Deep.Upon
namespace Go.Proofs.Ytodlmboagbjcbaa
set_option linter.unusedVariables false
set_option linter.unusedSimpArgs false
open Go.RowKit
theorem keptSetCells (g : Nat) : ∀ (vs : List Value) (o : Nat) (w : World), Kept (fun q => q = g) w (w.setCells g o vs)
  | [], o, w => .of_below (br w)
  | v :: vs, o, w => ((show Kept (fun q => q = g) w w from Kept.of_below (br w)).setCell (p := ⟨g, o, none⟩) rfl v).trans (keptSetCells g vs (o + 1) _)
theorem keptSet {g : Nat} {w w' : World} (h : Kept (fun q => q = g) w w') (o : Nat) (u : Value) : Kept (fun q => q = g) w (w'.setCell ⟨g, o, none⟩ u) := h.setCell (p := ⟨g, o, none⟩) rfl u
set_option maxRecDepth 100000 in
set_option maxHeartbeats 2000000 in
theorem kIns_any (a b : Msg) (base g cap : Nat) (w : World) (h : w.ownsRow base 37 6 (.slice (some ⟨g, 0, none⟩) 2 cap) 2 (rowsM [a, b])) : Calls Try.prog 60 #[.slice (some ⟨g, 0, none⟩) 2 cap, .int .i64 0, .int .i64 2, .func (.func 44) #[] #[]] w fun e w' => e = .returned (.tuple #[]) ∧ Kept (fun q => q = g) w w' := by
  have HH := Lib.hid h
  have hL := Lib.hid (fun (W : World) => kLess_any b a W)
  clear h
  go_enter Try.func60, Try.ntmps60
  go_wp2
  go_loopw [8, 9] (fun i j wr => ((i = .int .i64 1 ∧ w = wr) ∨ i = .int .i64 2) ∧ Kept (fun q => q = g) w wr) (fun i _ _ => 3 - (intOf i).toNat)
  case atStart => exact ⟨.inl ⟨rfl, rfl⟩, .of_below (br _)⟩
  case round =>
    obtain ⟨hij, hK⟩ := hrel
    rcases hij with ⟨rfl, rfl⟩ | rfl
    · go_wp2
      go_loopw [9] (fun j wr => ((j = .int .i64 1 ∧ w = wr) ∨ j = .int .i64 0) ∧ Kept (fun q => q = g) w wr) (fun j _ => (intOf j).toNat)
      case atStart => exact ⟨.inl ⟨rfl, rfl⟩, hK⟩
      case round =>
        obtain ⟨hj, hK2⟩ := hrel
        rcases hj with ⟨rfl, rfl⟩ | rfl
        · obtain ⟨g2, cap2, hv, hg0, hg1⟩ := HH.out.form (by omega)
          injection hv with hv1 hv2 hv3
          injection hv1 with hv1
          injection hv1 with hv1
          subst hv1
          subst hv3
          clear hv2
          have hrow : ∀ j u, (rowsM [a, b])[j]? = some u → w.cell? ⟨g, j, none⟩ = some u := fun j u hu => by
            have := HH.out.cells (g := g) rfl j u hu
            rw [← this]
            congr 1
            unfold Addr.add
            split <;> simp_all
          have hrB : w.rangeAt g 6 (msgA b).toList := fun j u hu => hrow (6 + j) u (by rw [show rowsM [a, b] = (msgA a).toList ++ (msgA b).toList by simp [rowsM], List.getElem?_append_right (by show 6 ≤ _; omega)]; simpa [msgA] using hu)
          have hrA : w.rangeAt g 0 (msgA a).toList := fun j u hu => by
            rw [Nat.zero_add]
            refine hrow j u ?_
            rw [show rowsM [a, b] = (msgA a).toList ++ (msgA b).toList by simp [rowsM], List.getElem?_append_left (List.getElem?_eq_some_iff.1 hu).1]
            exact hu
          have R1 := Lib.hid (Bel.range hrB hg1)
          have R2 := Lib.hid (Bel.range hrA hg1)
          have hxl : (msgA a).toList.length = 6 := rfl
          have hyl : (msgA b).toList.length = 6 := rfl
          have c1 : (1 : Int) < 2 := by omega
          have HAB := Lib.hid (And.intro hrA hrB)
          obtain ⟨v, hv⟩ : ∃ v, keyZ b.stamp b.frm a.stamp a.frm = v := ⟨_, rfl⟩
          rw [hv] at hL
          clear hrow hrA hrB hv
          go_wp2_with fail
          refine wp_region_bel (by kernel_rfl) (by kernel_rfl) ?_
          repeat (first
            | (refine wpQuiet_load_want (by rfl) 37 (.tmp 25) rfl g 6 rfl (msgA b).toList _ R1.out Try.underlying37 rfl (by rw [hyl]; kernel_rfl) ?_; go_simp)
            | (refine wpQuiet_load_want (by rfl) 37 (.tmp 30) rfl g 0 rfl (msgA a).toList _ R2.out Try.underlying37 rfl (by rw [hxl]; kernel_rfl) ?_; go_simp)
            | go_big_quiet_step ((go_at_call 44; exact bel_call (hL.out _))))
          refine wpQuiet_nil ?_
          intro x5
          have hb5 := x5.prop
          generalize x5.val = w5 at *
          have hg5 := Nat.lt_of_lt_of_le hg1 hb5.size
          have hrA : w5.rangeAt g 0 (msgA a).toList := fun j u hu => (hb5.cell (p := ⟨g, 0 + j, none⟩) hg1).trans (HAB.out.1 j u hu)
          have hrB : w5.rangeAt g 6 (msgA b).toList := fun j u hu => (hb5.cell (p := ⟨g, 6 + j, none⟩) hg1).trans (HAB.out.2 j u hu)
          have hth : ∀ j, j < 12 → (w5.cell? ⟨g, j, none⟩).isSome = true ∧ w5.frozen? ⟨g, j, none⟩ = false := by
            obtain ⟨g3, cap3, cur, e1, e2, e3, e4, e5, e6, _⟩ := HH.out.2.resolve_left (by rintro ⟨h, _⟩; cases h)
            injection e1 with e1 e7 e8
            injection e1 with e1
            injection e1 with e1
            subst e1
            have e9 := (hb5.block _ hg1).trans e3
            intro j hj
            refine ⟨?_, frozen_of_row _ _ _ _ _ e9⟩
            have hjs : j < cur.size := by omega
            rw [cell_of_row _ _ j _ _ _ e9, Array.getElem?_eq_getElem hjs]
            rfl
          have HT := Lib.hid hth
          clear hth
          by_cases hv0 : v < 0
          · have d1 : decide (v < 0) = true := by simpa using hv0
            have y0 : w5.cell? ⟨g, 0, none⟩ = some (.int .i64 a.frm) := hrA 0 _ rfl
            have y1 : w5.cell? ⟨g, 1, none⟩ = some (.int .u32 (a.seq : Int)) := hrA 1 _ rfl
            have y2 : w5.cell? ⟨g, 2, none⟩ = some (.int .u64 (a.stamp : Int)) := hrA 2 _ rfl
            have y3 : w5.cell? ⟨g, 3, none⟩ = some (.int .i64 a.service) := hrA 3 _ rfl
            have y4 : w5.cell? ⟨g, 4, none⟩ = some (.slice a.da a.ds.length a.dc) := hrA 4 _ rfl
            have y5 : w5.cell? ⟨g, 5, none⟩ = some (.string a.pay) := hrA 5 _ rfl
            have y6 : w5.cell? ⟨g, 6, none⟩ = some (.int .i64 b.frm) := hrB 0 _ rfl
            have y7 : w5.cell? ⟨g, 7, none⟩ = some (.int .u32 (b.seq : Int)) := hrB 1 _ rfl
            have y8 : w5.cell? ⟨g, 8, none⟩ = some (.int .u64 (b.stamp : Int)) := hrB 2 _ rfl
            have y9 : w5.cell? ⟨g, 9, none⟩ = some (.int .i64 b.service) := hrB 3 _ rfl
            have y10 : w5.cell? ⟨g, 10, none⟩ = some (.slice b.da b.ds.length b.dc) := hrB 4 _ rfl
            have y11 : w5.cell? ⟨g, 11, none⟩ = some (.string b.pay) := hrB 5 _ rfl
            have f0 : w5.frozen? ⟨g, 0, none⟩ = false := (HT.out 0 (by omega)).2
            have f1 : w5.frozen? ⟨g, 1, none⟩ = false := (HT.out 1 (by omega)).2
            have f2 : w5.frozen? ⟨g, 2, none⟩ = false := (HT.out 2 (by omega)).2
            have f3 : w5.frozen? ⟨g, 3, none⟩ = false := (HT.out 3 (by omega)).2
            have f4 : w5.frozen? ⟨g, 4, none⟩ = false := (HT.out 4 (by omega)).2
            have f5 : w5.frozen? ⟨g, 5, none⟩ = false := (HT.out 5 (by omega)).2
            have f6 : w5.frozen? ⟨g, 6, none⟩ = false := (HT.out 6 (by omega)).2
            have f7 : w5.frozen? ⟨g, 7, none⟩ = false := (HT.out 7 (by omega)).2
            have f8 : w5.frozen? ⟨g, 8, none⟩ = false := (HT.out 8 (by omega)).2
            have f9 : w5.frozen? ⟨g, 9, none⟩ = false := (HT.out 9 (by omega)).2
            have f10 : w5.frozen? ⟨g, 10, none⟩ = false := (HT.out 10 (by omega)).2
            have f11 : w5.frozen? ⟨g, 11, none⟩ = false := (HT.out 11 (by omega)).2
            clear hrA hrB R1 R2 hg0 hK hK2
            go_wp2_with fail
            go_region_with (fail)
            all_goals
              go_wp2
              refine ⟨⟨.inr rfl, ?_⟩, by simp [intOf]⟩
              exact (keptSet (keptSet (keptSet (keptSet (keptSet (keptSet (keptSet (keptSet (keptSet (keptSet (keptSet (keptSet (Kept.of_below hb5) _ _) _ _) _ _) _ _) _ _) _ _) _ _) _ _) _ _) _ _) _ _) _ _).drew
          · have d1 : decide (v < 0) = false := by simpa using hv0
            go_wp2
            exact ⟨⟨.inr rfl, .of_below hb5⟩, by simp [intOf]⟩
        · go_wp2_with fail
          refine wp_region_bel (by kernel_rfl) (by kernel_rfl) ?_
          repeat (go_big_quiet_step ((fail)))
          refine wpQuiet_nil ?_
          intro w5 hw5
          obtain ⟨x5, rfl⟩ := hw5
          have hb5 := hK2.trans (Kept.of_below (S := fun q => q = g) x5.prop)
          generalize x5.val = w5 at *
          go_wp2
          exact ⟨⟨.inr rfl, hb5⟩, by simp [intOf]⟩
    · go_wp2
      refine bodyPost_end (results_none rfl _ _ _) rfl ⟨rfl, hK⟩
set_option maxRecDepth 100000 in
set_option maxHeartbeats 2000000 in
theorem kStable_any (a b : Msg) (base g cap : Nat) (w : World) (h : w.ownsRow base 37 6 (.slice (some ⟨g, 0, none⟩) 2 cap) 2 (rowsM [a, b])) : Calls Try.prog 57 #[.slice (some ⟨g, 0, none⟩) 2 cap, .int .i64 2, .func (.func 44) #[] #[]] w fun e w' => e = .returned (.tuple #[]) ∧ Kept (fun q => q = g) w w' := by
  have HI := Lib.hid (kIns_any a b base g cap w h)
  clear h
  go_enter Try.func57, Try.ntmps57
  go_wp2
  go_loopw [7, 8] (fun x y wr => x = .int .i64 0 ∧ y = .int .i64 20 ∧ w = wr) (fun _ _ _ => 0)
  case atStart => exact ⟨rfl, rfl, rfl⟩
  case round =>
    obtain ⟨rfl, rfl, rfl⟩ := hrel
    go_wp2_with fail
    refine HI.out.mono ?_
    rintro e w5 ⟨rfl, hK⟩
    go_wp2
    go_loopw [6] (fun x wr => x = .int .i64 20 ∧ w5 = wr) (fun _ _ => 0)
    case atStart => exact ⟨rfl, rfl⟩
    case round =>
      obtain ⟨rfl, rfl⟩ := hrel
      go_wp2
      refine bodyPost_end (results_none rfl _ _ _) rfl ⟨rfl, hK⟩
set_option maxRecDepth 100000 in
set_option maxHeartbeats 2000000 in
theorem kSSF_any (a b : Msg) (base g cap : Nat) (w : World) (h : w.ownsRow base 37 6 (.slice (some ⟨g, 0, none⟩) 2 cap) 2 (rowsM [a, b])) : Calls Try.prog 43 #[.slice (some ⟨g, 0, none⟩) 2 cap, .func (.func 44) #[] #[]] w fun e w' => e = .returned (.tuple #[]) ∧ Kept (fun q => q = g) w w' := by
  have HI := Lib.hid (kStable_any a b base g cap w h)
  clear h
  go_enter Try.func43, Try.ntmps43
  go_wp2_with fail
  refine HI.out.mono ?_
  rintro e w5 ⟨rfl, hK⟩
  go_wp2
  refine bodyPost_end (results_none rfl _ _ _) rfl ⟨rfl, hK⟩
set_option maxRecDepth 100000 in
set_option maxHeartbeats 2000000 in
theorem kSort2_any (a b : Msg) (p : Addr) (cap : Nat) (w : World) (h : Reads w w.heap.size 6 (some p) 2 (rowsM [a, b])) : Calls Try.prog 27 #[.slice (some p) 2 cap] w fun e w' => (∃ ad cap', e = .returned (.slice ad 2 cap')) ∧ Below w.heap.size w w' := by
  have HC := Lib.hid (kClone_any [a, b] p cap w h (by simp))
  clear h
  go_enter Try.func27, Try.ntmps27
  go_wp2_with fail
  refine HC.out.mono ?_
  rintro e w5 ⟨v, rfl, ho, hb5⟩
  obtain ⟨g, cap2, rfl, hg0, hg1⟩ := ho.form (by simp)
  have HS := Lib.hid (kSSF_any a b _ g cap2 w5 ho)
  clear ho
  go_wp2_with fail
  refine HS.out.mono ?_
  rintro e w6 ⟨rfl, hK⟩
  have hb6 := hK.out hb5 hb5.size (by intro q hq; omega)
  go_wp2
  go_ret
  exact ⟨⟨_, _, rfl⟩, hb6⟩
end Go.Proofs.Ytodlmboagbjcbaa
