/-
  The walk of the law CrcOnly: it returns true.
  Conditions: none but that the text's length is an int.
-/
import Derived.Test.YtchonlodehogpaaCrcC
namespace Go.Proofs.Ytchonlodehogpaa
open Go.RowKit
theorem seal_open (s : ByteArray) (h : goodB s = true) : sealB (openS s) = s := by
  have h4 : ¬ s.size < 4 := fun h4 => by rw [good_short s h4] at h; exact Bool.noConfusion h
  obtain ⟨m, hm⟩ : ∃ m, s.size = m + 4 := ⟨s.size - 4, by omega⟩
  have hs := good_seal s m hm
  rw [h] at hs
  unfold openS
  rw [if_pos h, hm, Nat.add_sub_cancel]
  have := beq_iff_eq.1 hs.symm
  rw [ByteArray.toList_eq, ByteArray.toList_eq] at this
  exact ByteArray.ext (Array.ext' this)
theorem open_size (s : ByteArray) : (openS s).size ≤ s.size := by
  unfold openS; split
  · rw [ByteArray.size_extract]; omega
  · exact Nat.zero_le _
set_option maxHeartbeats 2000000 in
theorem law_only (s : ByteArray) (w : World) (hs : s.size ≤ 9223372036854775807) :
    Calls Try.prog 7 #[.string s] w fun e w' => e = .returned (.bool true) ∧ Below w.heap.size w w' := by
  by_cases g1 : 5000 < s.size
  · have d1 : decide ((5000 : Int) < (s.size : Int)) = true := by simp; omega
    go_enter Try.func7, Try.ntmps7
    go_wp2_with (go_at_call 17; refine (awake_any _).mono ?_; rintro e w1 ⟨rfl, hb1⟩)
    go_ret
    exact ⟨rfl, hb1⟩
  have d1 : decide ((5000 : Int) < (s.size : Int)) = false := by simp; omega
  clear hs
  have hs : s.size ≤ 5000 := by omega
  have hz := sealB_size s
  have hz2 : (sealB s).size ≤ 5004 := by omega
  clear hz
  go_enter Try.func7, Try.ntmps7
  go_wp2_with fail
  refine (awake_any _).mono ?_
  rintro e w1 ⟨rfl, hb1⟩
  go_wp2_with fail
  refine (refSeal_any _ _ (by omega)).mono ?_
  rintro e w2 ⟨rfl, hb2⟩
  go_wp2_with fail
  have hb3 : Below w.heap.size w (w2.alloc (.cells #[.string s, .string (sealB s)] 34)) := ba (bt hb1 hb2) _
  have c0 : (w2.alloc (.cells #[.string s, .string (sealB s)] 34)).cell? ⟨w2.heap.size, 0, none⟩ = some (.string s) := by simp [go_sem]
  have c1 : (w2.alloc (.cells #[.string s, .string (sealB s)] 34)).cell? ⟨w2.heap.size, 1, none⟩ = some (.string (sealB s)) := by simp [go_sem]
  have c2 : w2.heap.size + 1 ≤ (w2.alloc (.cells #[.string s, .string (sealB s)] 34)).heap.size := by simp
  have H : Hid (Below w.heap.size w (w2.alloc (.cells #[.string s, .string (sealB s)] 34)) ∧ (w2.alloc (.cells #[.string s, .string (sealB s)] 34)).cell? ⟨w2.heap.size, 0, none⟩ = some (.string s) ∧ (w2.alloc (.cells #[.string s, .string (sealB s)] 34)).cell? ⟨w2.heap.size, 1, none⟩ = some (.string (sealB s)) ∧ w2.heap.size + 1 ≤ (w2.alloc (.cells #[.string s, .string (sealB s)] 34)).heap.size) := ⟨hb3, c0, c1, c2⟩
  clear hb3 c0 c1 c2
  go_loopw [4] (fun i wr => ∃ k : Nat, k ≤ 2 ∧ i = .int .i64 k ∧ Below w.heap.size w wr ∧ wr.cell? ⟨w2.heap.size, 0, none⟩ = some (.string s) ∧ wr.cell? ⟨w2.heap.size, 1, none⟩ = some (.string (sealB s)) ∧ w2.heap.size + 1 ≤ wr.heap.size) (fun i _ => 2 - (intOf i).toNat)
  case atStart => exact ⟨0, by omega, rfl, H.out⟩
  case round =>
    clear H
    obtain ⟨k, hk, rfl, hb, h0, h1, hsz⟩ := hrel
    by_cases hlt : k < 2
    · obtain ⟨t, ht, hc⟩ : ∃ t : ByteArray, t.size ≤ 5004 ∧ wr.cell? ⟨w2.heap.size, k, none⟩ = some (.string t) := by
        obtain rfl | rfl : k = 0 ∨ k = 1 := by omega
        · exact ⟨s, by omega, h0⟩
        · exact ⟨sealB s, by omega, h1⟩
      have ho := open_size t
      have hso := seal_open t
      have HSO := Lib.hid hso
      have hfalse : goodB t = false → openS t = ⟨#[]⟩ := fun h => by unfold openS; rw [h]; rfl
      have HF := Lib.hid hfalse
      clear hso hfalse
      have H0 := Lib.hid h0
      have H1 := Lib.hid h1
      clear h0 h1
      have hk1 : (k : Int) < 2 := by omega
      have hk0 : (0 : Int) ≤ (k : Int) := by omega
      go_wp2_with fail
      refine (Open_any _ _ (by omega)).mono ?_
      rintro e w4 ⟨rfl, hb4⟩
      have hc4 : w4.cell? ⟨w2.heap.size, k, none⟩ = some (.string t) := by rw [hb4.cell (p := ⟨w2.heap.size, k, none⟩) (by simp; omega)]; exact hc
      have hz4 := hb4.size
      cases hg : goodB t
      · have he := HF.out hg
        have HG := Lib.hid hg
        clear hg
        go_wp2_with fail
        go_quiet (fail)
        go_wp2
        go_roundw
        case rel =>
          have hw4 : Below w.heap.size w w4 := bt hb hb4
          exact ⟨k + 1, by omega, by go_num, bn hw4 _, by rw [World.cell?_drewN, hb4.cell (p := ⟨w2.heap.size, 0, none⟩) (by simp; omega)]; exact H0.out, by rw [World.cell?_drewN, hb4.cell (p := ⟨w2.heap.size, 1, none⟩) (by simp; omega)]; exact H1.out, by show _ ≤ w4.heap.size; omega⟩
        case measure => simp [intOf]; omega
      · have he := HSO.out hg
        have HG := Lib.hid hg
        clear hg
        go_wp2_with fail
        have hx := Bel.cell hc4 (by simp; omega)
        refine wp_region_bel (by kernel_rfl) (by kernel_rfl) ?_
        repeat (go_big_quiet_step ((go_at_call 22; exact bel_call (Seal_any _ _ (by omega)))))
        refine wpQuiet_nil ?_
        intro w5 hw5
        have hb5 := bel_out hw5
        clear hw5 hx
        go_wp2
        go_roundw
        case rel =>
          have hw5 : Below w4.heap.size w4 w5 := hb5
          have hwr : Below wr.heap.size wr w5 := bt hb4 hw5
          exact ⟨k + 1, by omega, by go_num, bt hb hwr, by rw [hwr.cell (p := ⟨w2.heap.size, 0, none⟩) (by simp; omega)]; exact H0.out, by rw [hwr.cell (p := ⟨w2.heap.size, 1, none⟩) (by simp; omega)]; exact H1.out, by have := hwr.size; omega⟩
        case measure => simp [intOf]; omega
    · go_wp2
      go_ret
      exact ⟨rfl, hb⟩
end Go.Proofs.Ytchonlodehogpaa
