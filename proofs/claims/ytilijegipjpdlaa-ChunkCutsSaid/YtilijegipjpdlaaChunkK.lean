/-
  The law ChunkCuts.
  Conditions: none.
-/
import Derived.Test.YtilijegipjpdlaaChunkE
namespace Go.Proofs.Ytilijegipjpdlaa
set_option linter.unusedVariables false
open Go.RowKit IM
theorem itemsA_same (d : ByteArray) (n : Nat) (i t : Int) (w : World) :
    Calls Try.prog 9 #[.agg (itemA (itemX d n i t)), .agg (itemL d n i t).toArray] w fun e w' => e = .returned (.bool true) ∧ Below w.heap.size w w' := items19_same d n i t w
theorem lawItem_cells (d : ByteArray) (n : Nat) (i t : Int) (w : World) :
    Calls Try.prog 10 #[.agg (itemL d n i t).toArray] w fun e w' => e = .returned (.agg (itemA (itemX d n i t))) ∧ Below w.heap.size w w' := lawItem_any (itemX d n i t) w
set_option maxRecDepth 100000 in
set_option maxHeartbeats 2000000 in
theorem law_chunkCuts (n : Nat) (s : ByteArray) (w : World) (hn : n < 18446744073709551616) (hs : s.size ≤ 9223372036854775807) :
    Calls Try.prog 3 #[.int .u64 (n : Int), .string s] w fun e w' => e = .returned (.bool true) ∧ Below w.heap.size w w' := by
  by_cases hbig : 20000 < s.size
  · have d1 : decide ((20000 : Int) < (s.size : Int)) = true := by simp; omega
    have d2 : decide (20000 < s.size) = true := by simp; omega
    go_enter Try.func3, Try.ntmps3
    go_wp2_with fail
    refine (awake23_any _).mono ?_
    rintro e w1 ⟨rfl, hb1⟩
    go_wp2
    go_ret
    exact ⟨rfl, hb1⟩
  have d1 : decide ((20000 : Int) < (s.size : Int)) = false := by simp; omega
  have d2 : decide (20000 < s.size) = false := by simp; omega
  have hT1 : 1 ≤ totalN (cut4 s) := by unfold totalN; omega
  have hT2 : totalN (cut4 s) ≤ 16 := by have := cut4_size s; unfold totalN; omega
  have hI1 := fun W : World => (Items_any n s W hn (by omega)).mono fun e w' h => h.two hT1
  have hI2 := fun W : World => (refItems_any n s W hn (by omega)).mono fun e w' h => h.two hT1
  generalize cut4 s = x at *
  generalize totalN x = T at *
  have HI := Lib.hid (And.intro hI1 hI2)
  clear hI1 hI2
  go_enter Try.func3, Try.ntmps3
  go_wp2_with fail
  refine (awake23_any _).mono ?_
  rintro e w1 ⟨rfl, hb1⟩
  go_wp2_with fail
  refine (HI.out.1 _).mono ?_
  rintro e w2 ⟨g, cap, rfl, hg, hA, hb2⟩
  have hb2 := bt hb1 hb2
  go_wp2_with fail
  refine (HI.out.2 _).mono ?_
  rintro e w3 ⟨g', cap', rfl, hg', hA', hb3⟩
  have hA := hA.below hb3
  have hb3 := bt hb2 hb3
  have H := Lib.hid (And.intro hA hA')
  clear hA hA' hb1 hb2
  go_wp2
  go_loopw [7] (fun i wr => ∃ k : Nat, k ≤ T ∧ i = .int .i64 (k : Int) ∧ Below w3.heap.size w3 wr) (fun i _ => T - (intOf i).toNat)
  case atStart => exact ⟨0, by omega, rfl, br _⟩
  case round =>
    obtain ⟨k, hk, rfl, hbr⟩ := hrel
    by_cases hlt : k < T
    · have hd : decide ((k : Int) < (T : Int)) = true := by simp; omega
      have hA := H.out.1.below hbr
      have hA' := H.out.2.below hbr
      have R1 := Lib.hid (Bel.range (hA.2 k hlt) hA.1)
      have R2 := Lib.hid (Bel.range (hA'.2 k hlt) hA'.1)
      have hkT : (k : Int) < (T : Int) := by omega
      clear hA hA'
      go_wp2_with fail
      refine wp_region_bel (by kernel_rfl) (by kernel_rfl) ?_
      repeat (first
        | (refine wpQuiet_load_mid rfl 42 (.tmp 32) rfl g (k * 18) rfl (itemL (partB x k) n (k : Int) (T : Int)) _ R1.out Try.underlying42 rfl (by kernel_rfl) ?_; go_simp)
        | (refine wpQuiet_load_mid rfl 38 (.tmp 37) rfl g' (k * 18) rfl (itemL (partB x k) n (k : Int) (T : Int)) _ R2.out Try.underlying38 rfl (by kernel_rfl) ?_; go_simp)
        | go_big_quiet_step ((first | (go_at_call 10; exact bel_call (lawItem_cells _ _ _ _ _)) | (go_at_call 9; exact bel_call (itemsA_same _ _ _ _ _)))))
      refine wpQuiet_nil ?_
      intro x5
      have hb5 := bt hbr x5.prop
      generalize x5.val = w5 at *
      go_wp2
      exact ⟨⟨k + 1, by omega, by go_num, hb5⟩, by simp [intOf]; omega⟩
    · have hd : decide ((k : Int) < (T : Int)) = false := by simp; omega
      go_wp2
      go_ret
      exact ⟨rfl, bt hb3 hbr⟩
theorem row_chunkCuts (a : Int) (s : ByteArray) (w : World) (ha : 0 ≤ a ∧ a ≤ 18446744073709551615) (hs : s.size ≤ 9223372036854775807) :
    Calls Try.prog 3 #[.int .u64 a, .string s] w fun e w' => e = .returned (.bool true) ∧ Below w.heap.size w w' := by
  obtain ⟨n, rfl⟩ := Int.eq_ofNat_of_zero_le ha.1
  exact law_chunkCuts n s w (by omega) hs
end Go.Proofs.Ytilijegipjpdlaa
