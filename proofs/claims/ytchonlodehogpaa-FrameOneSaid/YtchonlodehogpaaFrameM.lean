/-
  The walks of the laws FrameParses, FrameOne, FrameSize: each returns true.
  Conditions: none but the arguments' kinds.
-/
import Derived.Test.YtchonlodehogpaaFrameD
namespace Go.Proofs.Ytchonlodehogpaa
set_option linter.unusedVariables false
open Go.RowKit
set_option maxHeartbeats 2000000 in
theorem law_frameParses (s : ByteArray) (w : World) (hs : s.size ≤ 9223372036854775807) :
    Calls Try.prog 9 #[.string s] w fun e w' => e = .returned (.bool true) ∧ Below w.heap.size w w' := by
  by_cases g1 : 40000 < s.size
  · have d1 : decide ((40000 : Int) < (s.size : Int)) = true := by simp; omega
    go_enter Try.func9, Try.ntmps9
    go_wp2_with (go_at_call 24; refine (awake5_any _).mono ?_; rintro e w1 ⟨rfl, hb1⟩)
    go_ret
    exact ⟨rfl, hb1⟩
  have d1 : decide ((40000 : Int) < (s.size : Int)) = false := by simp; omega
  clear hs
  have hs : s.size ≤ 40000 := by omega
  have hz := sealB_size s
  have hz2 : (sealB s).size ≤ 40004 := by omega
  clear hz
  go_enter Try.func9, Try.ntmps9
  go_wp2_with fail
  refine (awake5_any _).mono ?_
  rintro e w1 ⟨rfl, hb1⟩
  go_wp2_with fail
  refine (refSeal_any _ _ (by omega)).mono ?_
  rintro e w2 ⟨rfl, hb2⟩
  go_wp2_with fail
  have H : Hid (Below w.heap.size w (w2.alloc (.cells #[.string s, .string (sealB s)] 34)) ∧ (w2.alloc (.cells #[.string s, .string (sealB s)] 34)).cell? ⟨w2.heap.size, 0, none⟩ = some (.string s) ∧ (w2.alloc (.cells #[.string s, .string (sealB s)] 34)).cell? ⟨w2.heap.size, 1, none⟩ = some (.string (sealB s)) ∧ w2.heap.size + 1 ≤ (w2.alloc (.cells #[.string s, .string (sealB s)] 34)).heap.size) :=
    ⟨ba (bt hb1 hb2) _, by simp [go_sem], by simp [go_sem], by simp⟩
  go_loopw [4] (fun i wr => ∃ k : Nat, k ≤ 2 ∧ i = .int .i64 k ∧ Below w.heap.size w wr ∧ wr.cell? ⟨w2.heap.size, 0, none⟩ = some (.string s) ∧ wr.cell? ⟨w2.heap.size, 1, none⟩ = some (.string (sealB s)) ∧ w2.heap.size + 1 ≤ wr.heap.size) (fun i _ => 2 - (intOf i).toNat)
  case atStart => exact ⟨0, by omega, rfl, H.out⟩
  case round =>
    clear H
    obtain ⟨k, hk, rfl, hb, h0, h1, hsz⟩ := hrel
    by_cases hlt : k < 2
    · obtain ⟨t, ht, hc⟩ : ∃ t : ByteArray, t.size ≤ 40004 ∧ wr.cell? ⟨w2.heap.size, k, none⟩ = some (.string t) := by
        obtain rfl | rfl : k = 0 ∨ k = 1 := by omega
        · exact ⟨s, by omega, h0⟩
        · exact ⟨sealB s, by omega, h1⟩
      have H0 := Lib.hid h0
      have H1 := Lib.hid h1
      clear h0 h1
      have hk1 : (k : Int) < 2 := by omega
      have hk0 : (0 : Int) ≤ (k : Int) := by omega
      go_wp2_with fail
      refine (Parse_any _ _ (by omega)).mono ?_
      rintro e w4 ⟨rfl, hb4⟩
      unfold frameV
      have hc4 : w4.cell? ⟨w2.heap.size, k, none⟩ = some (.string t) := by rw [hb4.cell (p := ⟨w2.heap.size, k, none⟩) (by simp; omega)]; exact hc
      have hz4 := hb4.size
      have hs4 : w2.heap.size < w4.heap.size := by omega
      have hF := FrameAt.new w4 (parseN t 2) (parseN t 3) (parseN t 4) (parseB t) 37
      go_wp2_with fail
      refine (refParse_any _ _ (by omega)).mono ?_
      rintro e w5 ⟨rfl, hb5⟩
      obtain ⟨_, c0, c1, c2, c3, _, _, _, _⟩ := hF.below hb5 (by simp)
      go_wp2
      go_roundw
      case rel =>
        have hw5 : Below wr.heap.size wr w5 := bt (ba hb4 _) hb5
        exact ⟨k + 1, by omega, by go_num, bt hb hw5, by rw [hw5.cell (p := ⟨w2.heap.size, 0, none⟩) (by simp; omega)]; exact H0.out, by rw [hw5.cell (p := ⟨w2.heap.size, 1, none⟩) (by simp; omega)]; exact H1.out, by have := hw5.size; omega⟩
      case measure => simp [intOf]; omega
    · go_wp2
      go_ret
      exact ⟨rfl, hb⟩
set_option maxHeartbeats 2000000 in
theorem law_frameOne (s : ByteArray) (w : World) (hs : s.size ≤ 9223372036854775807) :
    Calls Try.prog 11 #[.string s] w fun e w' => e = .returned (.bool true) ∧ Below w.heap.size w w' := by
  by_cases g1 : 40000 < s.size
  · have d1 : decide ((40000 : Int) < (s.size : Int)) = true := by simp; omega
    go_enter Try.func11, Try.ntmps11
    go_wp2_with (go_at_call 24; refine (awake5_any _).mono ?_; rintro e w1 ⟨rfl, hb1⟩)
    go_ret
    exact ⟨rfl, hb1⟩
  have d1 : decide ((40000 : Int) < (s.size : Int)) = false := by simp; omega
  clear hs
  have hs : s.size ≤ 40000 := by omega
  have hz := sealB_size s
  have hz2 : (sealB s).size ≤ 40004 := by omega
  clear hz
  go_enter Try.func11, Try.ntmps11
  go_wp2_with fail
  refine (awake5_any _).mono ?_
  rintro e w1 ⟨rfl, hb1⟩
  go_wp2_with fail
  refine (refSeal_any _ _ (by omega)).mono ?_
  rintro e w2 ⟨rfl, hb2⟩
  go_wp2_with fail
  have H : Hid (Below w.heap.size w (w2.alloc (.cells #[.string s, .string (sealB s)] 34)) ∧ (w2.alloc (.cells #[.string s, .string (sealB s)] 34)).cell? ⟨w2.heap.size, 0, none⟩ = some (.string s) ∧ (w2.alloc (.cells #[.string s, .string (sealB s)] 34)).cell? ⟨w2.heap.size, 1, none⟩ = some (.string (sealB s)) ∧ w2.heap.size + 1 ≤ (w2.alloc (.cells #[.string s, .string (sealB s)] 34)).heap.size) :=
    ⟨ba (bt hb1 hb2) _, by simp [go_sem], by simp [go_sem], by simp⟩
  go_loopw [4] (fun i wr => ∃ k : Nat, k ≤ 2 ∧ i = .int .i64 k ∧ Below w.heap.size w wr ∧ wr.cell? ⟨w2.heap.size, 0, none⟩ = some (.string s) ∧ wr.cell? ⟨w2.heap.size, 1, none⟩ = some (.string (sealB s)) ∧ w2.heap.size + 1 ≤ wr.heap.size) (fun i _ => 2 - (intOf i).toNat)
  case atStart => exact ⟨0, by omega, rfl, H.out⟩
  case round =>
    clear H
    obtain ⟨k, hk, rfl, hb, h0, h1, hsz⟩ := hrel
    by_cases hlt : k < 2
    · obtain ⟨t, ht, hc⟩ : ∃ t : ByteArray, t.size ≤ 40004 ∧ wr.cell? ⟨w2.heap.size, k, none⟩ = some (.string t) := by
        obtain rfl | rfl : k = 0 ∨ k = 1 := by omega
        · exact ⟨s, by omega, h0⟩
        · exact ⟨sealB s, by omega, h1⟩
      have H0 := Lib.hid h0
      have H1 := Lib.hid h1
      clear h0 h1
      have hk1 : (k : Int) < 2 := by omega
      have hk0 : (0 : Int) ≤ (k : Int) := by omega
      by_cases hE : parseE t = 0
      · obtain ⟨hk, hf, ht2, hb3, hfr⟩ := framed_parse t hE
        have hpe : printE (byteN t 2) (byteN t 3) (byteN t 4) (bodyS t) = 0 := (may_iff _ _ _ _).2 ⟨hk, hf, ht2, hb3⟩
        have hps : printS (byteN t 2) (byteN t 3) (byteN t 4) (bodyS t) = t := by
          unfold printS
          rw [if_pos hpe, Int.toNat_natCast, Int.toNat_natCast, Int.toNat_natCast]
          exact hfr
        have q2 : parseN t 2 = byteN t 2 := by simp [parseN, hE]
        have q3 : parseN t 3 = byteN t 3 := by simp [parseN, hE]
        have q4 : parseN t 4 = byteN t 4 := by simp [parseN, hE]
        have q5 : parseB t = bodyS t := by simp [parseB, hE]
        generalize byteN t 2 = n2 at *
        generalize byteN t 3 = n3 at *
        generalize byteN t 4 = n4 at *
        generalize bodyS t = bb at *
        clear hk hf ht2 hfr
        go_wp2_with fail
        refine (Parse_any _ _ (by omega)).mono ?_
        rintro e w4 ⟨rfl, hb4⟩
        unfold frameV
        have hc4 : w4.cell? ⟨w2.heap.size, k, none⟩ = some (.string t) := by rw [hb4.cell (p := ⟨w2.heap.size, k, none⟩) (by simp; omega)]; exact hc
        have hz4 := hb4.size
        have hs4 : w2.heap.size < w4.heap.size := by omega
        go_wp2_with fail
        refine (Print_any _ _ _ _ _ (by omega)).mono ?_
        rintro e w5 ⟨rfl, hb5⟩
        have hc5 : w5.cell? ⟨w2.heap.size, k, none⟩ = some (.string t) := by rw [hb5.cell (p := ⟨w2.heap.size, k, none⟩) (by simp; omega), World.cell?_alloc_lt _ _ _ (by simp; omega)]; exact hc4
        go_wp2
        go_roundw
        case rel =>
          have hw5 : Below wr.heap.size wr w5 := bt (ba hb4 _) hb5
          exact ⟨k + 1, by omega, by go_num, bt hb hw5, by rw [hw5.cell (p := ⟨w2.heap.size, 0, none⟩) (by simp; omega)]; exact H0.out, by rw [hw5.cell (p := ⟨w2.heap.size, 1, none⟩) (by simp; omega)]; exact H1.out, by have := hw5.size; omega⟩
        case measure => simp [intOf]; omega
      · have hbad := parse_bad t hE
        have q2 := (hbad 2).1
        have q3 := (hbad 3).1
        have q4 := (hbad 4).1
        have q5 := (hbad 0).2
        have hne : (parseE t != 0) = true := by rw [bne_iff_ne]; exact hE
        clear hbad hE
        go_wp2_with fail
        refine (Parse_any _ _ (by omega)).mono ?_
        rintro e w4 ⟨rfl, hb4⟩
        unfold frameV
        have hc4 : w4.cell? ⟨w2.heap.size, k, none⟩ = some (.string t) := by rw [hb4.cell (p := ⟨w2.heap.size, k, none⟩) (by simp; omega)]; exact hc
        have hz4 := hb4.size
        have hs4 : w2.heap.size < w4.heap.size := by omega
        go_wp2
        go_roundw
        case rel =>
          have hw5 : Below wr.heap.size wr (w4.alloc (.cells #[.int .i64 0, .int .i64 0, .int .i64 0, .string ⟨#[]⟩] 37)) := ba hb4 _
          exact ⟨k + 1, by omega, by go_num, bt hb hw5, by rw [hw5.cell (p := ⟨w2.heap.size, 0, none⟩) (by simp; omega)]; exact H0.out, by rw [hw5.cell (p := ⟨w2.heap.size, 1, none⟩) (by simp; omega)]; exact H1.out, by have := hw5.size; omega⟩
        case measure => simp [intOf]; omega
    · go_wp2
      go_ret
      exact ⟨rfl, hb⟩
end Go.Proofs.Ytchonlodehogpaa
