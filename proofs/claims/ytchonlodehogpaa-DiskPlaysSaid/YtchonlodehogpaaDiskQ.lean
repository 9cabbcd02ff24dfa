/-
  The law DiskPlays.
  Conditions: none.
-/
import Derived.Test.YtchonlodehogpaaDiskG
import Derived.Test.YtchonlodehogpaaDiskL
import Derived.Test.YtchonlodehogpaaDiskP
namespace Go.Proofs.Ytchonlodehogpaa
set_option linter.unusedVariables false
open Go.RowKit
theorem DkAt.set2 {w : World} {M : Nat} {a b : ByteArray} (h : DkAt w M a b) (x y : ByteArray) : DkStep w M x y ((w.setCell ⟨M, 0, none⟩ (.string x)).setCell ⟨M, 1, none⟩ (.string y)) := by
  have h1 := DkStep.put0 h (br w) 0 x
  have h2 := DkStep.put1 h1.1 (br _) 0 y
  exact ⟨h2.1, ⟨rfl, rfl, rfl, by simp [World.setCell], fun k _ hk => (Below.heap_setCell _ _ _ _ (fun e => hk (by rw [e]))).trans (Below.heap_setCell _ _ _ _ (fun e => hk (by rw [e])))⟩⟩
set_option maxRecDepth 100000 in
set_option maxHeartbeats 4000000 in
theorem law_diskPlays (v : Value) (l : List ActV) (w : World) (h : ActsAt w v l) :
    Calls Try.prog 13 #[v] w fun e w' => e = .returned (.bool true) ∧ Below w.heap.size w w' := by
  have hFew := fun (W : World) (hW : ActsAt W v l) => Few_any v l W hW
  have HF := Lib.hid hFew
  have HA := Lib.hid h
  obtain ⟨ad, cap, rfl, hl, hc⟩ := h.uni
  have HC := Lib.hid hc
  clear hFew h hc
  go_enter Try.func13, Try.ntmps13
  go_wp2_with fail
  refine (awake08_any _).mono ?_
  rintro e w1 ⟨rfl, hb1⟩
  go_wp2_with fail
  refine (HF.out _ (HA.out.below hb1 (Nat.le_refl _))).mono ?_
  rintro e w2 ⟨⟨b, rfl, hb⟩, rfl⟩
  cases b
  · go_wp2
    go_ret
    exact ⟨rfl, hb1⟩
  have hlen := hb rfl
  clear hb
  go_wp2_with fail
  refine (dNew_any _).mono ?_
  rintro e w3 ⟨rfl, hw3⟩
  have h3 : DkAt w3 w1.heap.size ⟨#[]⟩ ⟨#[]⟩ := by rw [← hw3]; exact DkAt.new _ _ _ _
  have hb3 : Below w.heap.size w w3 := by rw [← hw3]; exact ba hb1 _
  have hDw : w.heap.size ≤ w1.heap.size := hb1.size
  generalize w1.heap.size = D at *
  clear hw3
  have hM3 : DkAt (w3.alloc (.cells #[.string ⟨#[]⟩, .string ⟨#[]⟩] 54)) w3.heap.size ⟨#[]⟩ ⟨#[]⟩ := DkAt.new _ _ _ _
  have h4 := h3.below (ba (br w3) (.cells #[.string ⟨#[]⟩, .string ⟨#[]⟩] 54)) h3.lt
  have hDM : w3.heap.size ≠ D := Nat.ne_of_gt h3.lt
  have hMw : w.heap.size ≤ w3.heap.size := hb3.size
  have hb4 := ba hb3 (.cells #[.string ⟨#[]⟩, .string ⟨#[]⟩] 54)
  go_wp2
  go_loopw [5] (fun i wr => ∃ (k : Nat) (a b : ByteArray), k ≤ l.length ∧ i = .int .i64 (k : Int) ∧ (a.size ≤ 10000 ∧ b.size ≤ 10000) ∧ DkAt wr D a b ∧ DkAt wr w3.heap.size a b ∧ Below w.heap.size w wr) (fun i _ => l.length - (intOf i).toNat)
  case atStart => exact ⟨0, ⟨#[]⟩, ⟨#[]⟩, by omega, rfl, by decide, h4, hM3, hb4⟩
  case round =>
    obtain ⟨k, a, b, hk, rfl, hz, hDk, hMk, hbr⟩ := hrel
    by_cases hlt : k < l.length
    · have hbool : decide ((k : Int) < (l.length : Int)) = true := by simpa using hlt
      obtain ⟨B, O, rfl, hB, hact⟩ := HC.out k hlt
      obtain ⟨c0, c1, c2, c3⟩ := hact.below hbr hB
      generalize l[k] = x at c0 c1 c2 c3
      have hz' := act_size (a, b) x hz.1 hz.2
      have hneD : wr.heap.size ≠ D := Nat.ne_of_gt hDk.lt
      have hneM : wr.heap.size ≠ w3.heap.size := Nat.ne_of_gt hMk.lt
      have hDk1 := hDk.below (ba (br wr) (.cells #[.string x.data, .bool x.tear, .int .i64 x.keep] 56)) hDk.lt
      have hMk1 := hMk.below (ba (br wr) (.cells #[.string x.data, .bool x.tear, .int .i64 x.keep] 56)) hMk.lt
      have hsz1 : w.heap.size ≤ (wr.alloc (.cells #[.string x.data, .bool x.tear, .int .i64 x.keep] 56)).heap.size := by have := hbr.size; simp; omega
      have hDo : ∀ W : World, DkAt W D a b → Calls Try.prog 32 #[.pointer (some ⟨D, 0, none⟩), .agg #[.string x.data, .bool x.tear, .int .i64 x.keep]] W fun e w' => e = .returned (.int .i64 (codeD x)) ∧ DkStep W D (actD (a, b) x).1 (actD (a, b) x).2 w' :=
        fun W hW => do_any D a b x W hW (by omega) (by omega) c3
      have hRd : ∀ W : World, DkAt W D (actD (a, b) x).1 (actD (a, b) x).2 → Calls Try.prog 35 #[.pointer (some ⟨D, 0, none⟩)] W fun e w' => e = .returned (.tuple #[.string (txtD (actD (a, b) x).1 (actD (a, b) x).2), .bool (anyD (actD (a, b) x).1 (actD (a, b) x).2)]) ∧ Below W.heap.size W w' :=
        fun W hW => dRead_any D _ _ W hW (by omega) (by omega)
      have hMd : ∀ W : World, Calls Try.prog 36 #[.agg #[.string (actD (a, b) x).1, .string (actD (a, b) x).2]] W fun e w' => e = .returned (.tuple #[.string (txtD (actD (a, b) x).1 (actD (a, b) x).2), .bool (anyD (actD (a, b) x).1 (actD (a, b) x).2)]) ∧ Below W.heap.size W w' :=
        fun W => refRead_any _ _ W (by omega) (by omega)
      have hTr := fun W : World => refTear_any a b x.data x.keep W (by omega) (by omega) c3
      have hWr := fun W : World => refWrite_any a b x.data x.keep W (by omega) (by omega) c3
      have hxt : ∀ t, x.tear = t → (⟨x.data, t, x.keep⟩ : ActV) = x := by rintro t rfl; rfl
      have hS0 := fun (W : World) (D : Nat) (a b : ByteArray) (hW : DkAt W D a b) => dSlot0_any D a b W hW
      have hTr2 : x.tear = true → ∀ W : World, Calls Try.prog 33 #[twoV a b, .string x.data, .int .i64 x.keep] W fun e w' => e = .returned (.tuple #[twoV (actD (a, b) x).1 (actD (a, b) x).2, .int .i64 (codeD x)]) ∧ Below W.heap.size W w' := by
        intro ht W
        have := hTr W
        rw [hxt true ht] at this
        exact this
      have hWr2 : x.tear = false → ∀ W : World, Calls Try.prog 34 #[twoV a b, .string x.data] W fun e w' => e = .returned (.tuple #[twoV (actD (a, b) x).1 (actD (a, b) x).2, .int .i64 (codeD x)]) ∧ Below W.heap.size W w' := by
        intro ht W
        have := hWr W
        rw [hxt false ht] at this
        exact this
      clear hTr hWr
      unfold twoV at hTr2 hWr2
      generalize codeD x = c at *
      generalize actD (a, b) x = p' at *
      obtain ⟨a', b'⟩ := p'
      simp only at hDo hRd hMd hTr2 hWr2 hz'
      generalize txtD a' b' = T at *
      generalize anyD a' b' = Y at *
      clear hxt hlen hz
      generalize x.data = xs at *
      generalize x.tear = xt at *
      generalize x.keep = xk at *
      have HD := Lib.hid hDo
      have HR := Lib.hid hRd
      have HM := Lib.hid hMd
      have HT := Lib.hid hTr2
      have HW := Lib.hid hWr2
      clear hDo hRd hMd hTr2 hWr2
      cases xt
      all_goals
        first
          | (have HX := Lib.hid (HT.out rfl); clear HT HW)
          | (have HX := Lib.hid (HW.out rfl); clear HT HW)
        go_wp2_with fail
        refine (HD.out _ hDk1).mono ?_
        rintro e w4 ⟨rfl, hst⟩
        have q0 : w4.cell? ⟨wr.heap.size, 0, none⟩ = some (.string xs) := (hst.cell (p := ⟨wr.heap.size, 0, none⟩) (by simp) hneD).trans (cell3_0 _ _ _ _ _)
        have q1 := (hst.cell (p := ⟨wr.heap.size, 1, none⟩) (by simp) hneD).trans (cell3_1 _ _ _ _ _)
        have q2 : w4.cell? ⟨wr.heap.size, 2, none⟩ = some (.int .i64 xk) := (hst.cell (p := ⟨wr.heap.size, 2, none⟩) (by simp) hneD).trans (cell3_2 _ _ _ _ _)
        have hM4 := hMk1.stays hst hDM
        have hb4 := hst.out (ba hbr _) hDw hsz1
        have hD4 := hst.1
        obtain ⟨m0, m1, n0, n1⟩ := id hM4
        go_wp2_with fail
        refine (HX.out _).mono ?_
        rintro e w5 ⟨rfl, hb5⟩
        have hM5 := hM4.below hb5 hM4.lt
        have hD5 := hD4.below hb5 hD4.lt
        have hb5 := hb4.trans (hb5.mono hb4.size)
        clear m0 m1 n0 n1 q0 q1 q2
        have hS5 := hM5.set2 a' b'
        have hD6 := hD5.stays hS5 hDM.symm
        have hM6 := hS5.1
        have hb6 := hS5.out hb5 hMw hb5.size
        obtain ⟨m0, m1, n0, n1⟩ := id hM5
        go_wp2_with fail
        refine (HR.out _ hD6).mono ?_
        rintro e w7 ⟨rfl, hb7⟩
        have hM7 := hM6.below hb7 hM6.lt
        have hD7 := hD6.below hb7 hD6.lt
        have hb7 := hb6.trans (hb7.mono hb6.size)
        clear m0 m1 n0 n1 hS5 hM5 hD5 hM4 hD4 hst
        obtain ⟨m0, m1, n0, n1⟩ := id hM7
        go_wp2_with fail
        refine (HM.out _).mono ?_
        rintro e w8 ⟨rfl, hb8⟩
        have hM8 := hM7.below hb8 hM7.lt
        have hD8 := hD7.below hb8 hD7.lt
        have hb8 := hb7.trans (hb8.mono hb7.size)
        clear m0 m1 n0 n1
        obtain ⟨m0, m1, n0, n1⟩ := id hM8
        go_wp2_with fail
        have HX0 := Lib.hid (fun x : Bel w8 => dSlot0_any D a' b' x.val (hD8.below x.prop hD8.lt))
        have HX1 := Lib.hid (fun x : Bel w8 => dSlot1_any D a' b' x.val (hD8.below x.prop hD8.lt))
        have hm0 := Bel.cell m0 hM8.lt
        have hm1 := Bel.cell m1 hM8.lt
        clear m0 m1 n0 n1
        refine wp_region_bel (by kernel_rfl) (by kernel_rfl) ?_
        repeat (go_big_quiet_step ((go_at_call 37; first | (with_reducible exact bel_same (HX0.out _)) | (with_reducible exact bel_same (HX1.out _)) | (with_reducible exact bel_same (dSlotN_any _ _)))))
        refine wpQuiet_nil ?_
        intro w9 hw9
        have hb9 := bel_out hw9
        clear hw9 hm0 hm1 HX0 HX1
        have hD9 := hD8.below hb9 hD8.lt
        have hM9 := hM8.below hb9 hM8.lt
        have hb9 := hb8.trans (hb9.mono hb8.size)
        go_wp2
        exact ⟨⟨k + 1, a', b', by omega, by go_num, hz', hD9, hM9, hb9⟩, by simp [intOf]; omega⟩
    · have hbool : decide ((k : Int) < (l.length : Int)) = false := by simpa using hlt
      go_wp2
      go_ret
      exact ⟨rfl, hbr⟩
end Go.Proofs.Ytchonlodehogpaa
