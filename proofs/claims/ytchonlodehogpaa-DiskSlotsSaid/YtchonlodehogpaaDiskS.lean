/-
  The law DiskSlots.
  Conditions: none.
-/
import Derived.Test.YtchonlodehogpaaDiskL
namespace Go.Proofs.Ytchonlodehogpaa
set_option linter.unusedVariables false
open Go.RowKit
set_option maxRecDepth 100000 in
set_option maxHeartbeats 4000000 in
theorem law_diskSlots (v : Value) (l : List ActV) (w : World) (h : ActsAt w v l) :
    Calls Try.prog 15 #[v] w fun e w' => e = .returned (.bool true) ∧ Below w.heap.size w w' := by
  have hFew := fun (W : World) (hW : ActsAt W v l) => Few_any v l W hW
  have HF := Lib.hid hFew
  have HA := Lib.hid h
  obtain ⟨ad, cap, rfl, hl, hc⟩ := h.uni
  have HC := Lib.hid hc
  clear hFew h hc
  go_enter Try.func15, Try.ntmps15
  go_wp2_with fail
  refine (awake08_any _).mono ?_
  rintro e w1 ⟨rfl, hb1⟩
  go_wp2_with fail
  refine (HF.out _ (HA.out.below hb1 (Nat.le_refl _))).mono ?_
  rintro e w2 ⟨⟨b, rfl, hb⟩, rfl⟩
  cases b
  · go_wp2
    go_ret
    exact ⟨rfl, hb1⟩
  have hlen := hb rfl
  clear hb
  go_wp2_with fail
  refine (dNew_any _).mono ?_
  rintro e w3 ⟨rfl, hw3⟩
  have h3 : DkAt w3 w1.heap.size ⟨#[]⟩ ⟨#[]⟩ := by rw [← hw3]; exact DkAt.new _ _ _ _
  have hb3 : Below w.heap.size w w3 := by rw [← hw3]; exact ba hb1 _
  have hDw : w.heap.size ≤ w1.heap.size := hb1.size
  generalize w1.heap.size = D at *
  clear hw3
  go_wp2
  go_loopw [4] (fun i wr => ∃ (k : Nat) (a b : ByteArray), k ≤ l.length ∧ i = .int .i64 (k : Int) ∧ (a.size ≤ 10000 ∧ b.size ≤ 10000) ∧ DkAt wr D a b ∧ Below w.heap.size w wr) (fun i _ => l.length - (intOf i).toNat)
  case atStart => exact ⟨0, ⟨#[]⟩, ⟨#[]⟩, by omega, rfl, by decide, h3, hb3⟩
  case round =>
    obtain ⟨k, a, b, hk, rfl, hz, hDk, hbr⟩ := hrel
    by_cases hlt : k < l.length
    · have hbool : decide ((k : Int) < (l.length : Int)) = true := by simpa using hlt
      obtain ⟨B, O, rfl, hB, hact⟩ := HC.out k hlt
      generalize l[k] = x at hact
      have hz' := act_size (a, b) x hz.1 hz.2
      have hDo : ∀ W : World, DkAt W D a b → Calls Try.prog 32 #[.pointer (some ⟨D, 0, none⟩), .agg #[.string x.data, .bool x.tear, .int .i64 x.keep]] W fun e w' => e = .returned (.int .i64 (codeD x)) ∧ DkStep W D (actD (a, b) x).1 (actD (a, b) x).2 w' :=
        fun W hW => do_any D a b x W hW (by omega) (by omega) hact.2.2.2
      have hR0 : ∀ W : World, DkAt W D a b → Calls Try.prog 35 #[.pointer (some ⟨D, 0, none⟩)] W fun e w' => e = .returned (.tuple #[.string (txtD a b), .bool (anyD a b)]) ∧ Below W.heap.size W w' :=
        fun W hW => dRead_any D _ _ W hW (by omega) (by omega)
      have hRd : ∀ W : World, DkAt W D (actD (a, b) x).1 (actD (a, b) x).2 → Calls Try.prog 35 #[.pointer (some ⟨D, 0, none⟩)] W fun e w' => e = .returned (.tuple #[.string (txtD (actD (a, b) x).1 (actD (a, b) x).2), .bool (anyD (actD (a, b) x).1 (actD (a, b) x).2)]) ∧ Below W.heap.size W w' :=
        fun W hW => dRead_any D _ _ W hW (by omega) (by omega)
      have key : (codeD x = 3 ∧ (actD (a, b) x).1 = a ∧ (actD (a, b) x).2 = b) ∨ (codeD x = 0 ∧ (actD (a, b) x).1 = a) ∨ (codeD x = 0 ∧ (actD (a, b) x).1 ≠ a ∧ (actD (a, b) x).2 = b) := by
        by_cases h8 : 8192 < x.data.size
        · rw [act_long _ _ h8]
          exact .inl ⟨if_pos h8, rfl, rfl⟩
        · have hc : codeD x = 0 := if_neg h8
          by_cases h1 : (actD (a, b) x).1 = a
          · exact .inr (.inl ⟨hc, h1⟩)
          · rcases act_one (a, b) x with h2 | h2
            · exact absurd h2 h1
            · exact .inr (.inr ⟨hc, h1, h2⟩)
      have hT : x.tear = true → txtD (actD (a, b) x).1 (actD (a, b) x).2 = txtD a b ∧ anyD (actD (a, b) x).1 (actD (a, b) x).2 = anyD a b := fun ht => ⟨(act_torn (a, b) x ht).1, (act_torn (a, b) x ht).2.1⟩
      generalize actD (a, b) x = p' at *
      obtain ⟨a', b'⟩ := p'
      simp only at hDo key hRd hz' hT
      generalize codeD x = code at *
      obtain ⟨xs, xt, xk⟩ := x
      simp only at hDo hT
      clear hz hlen
      rcases key with key | key | key
      · obtain ⟨kc, hp1, hp2⟩ := key
        subst kc hp1 hp2
        cases xt
        · clear hT
          have HX := Lib.hid hact
          have HD := Lib.hid hDo
          have HR := Lib.hid hRd
          have HR0 := Lib.hid hR0
          clear hact hDo hRd hR0
          go_wp2_with fail
          refine (dSlot0_any _ _ _ _ hDk).mono ?_
          rintro e w8 ⟨rfl, rfl⟩
          go_wp2_with fail
          refine (dSlot1_any _ _ _ _ hDk).mono ?_
          rintro e w8 ⟨rfl, rfl⟩
          go_wp2_with fail
          refine (HR0.out _ hDk).mono ?_
          rintro e w3 ⟨rfl, hb3⟩
          have hDk3 := hDk.below hb3 hDk.lt
          have hbr3 := hbr.trans (hb3.mono hbr.size)
          obtain ⟨c0, c1, c2, c3⟩ := HX.out.below hbr3 hB
          dsimp only at c0 c1 c2
          go_wp2_with fail
          refine (HD.out _ hDk3).mono ?_
          rintro e w4 ⟨rfl, hst⟩
          have hb4 := hst.out hbr3 hDw hbr3.size
          clear c0 c1 c2 c3
          go_wp2_with fail
          refine (dSlot0_any _ _ _ _ hst.1).mono ?_
          rintro e w8 ⟨rfl, rfl⟩
          go_wp2_with fail
          refine (dSlot0_any _ _ _ _ hst.1).mono ?_
          rintro e w8 ⟨rfl, rfl⟩
          go_wp2_with fail
          refine (dSlot1_any _ _ _ _ hst.1).mono ?_
          rintro e w8 ⟨rfl, rfl⟩
          go_wp2_with fail
          refine (HR.out _ hst.1).mono ?_
          rintro e w5 ⟨rfl, hb5⟩
          have hDk5 := hst.1.below hb5 hst.1.lt
          have hb5 := hb4.trans (hb5.mono hb4.size)
          obtain ⟨c0, c1, c2, c3⟩ := HX.out.below hb5 hB
          dsimp only at c0 c1 c2
          go_wp2
          exact ⟨⟨k + 1, a', b', by omega, by go_num, hz', hDk5, hb5⟩, by simp [intOf]; omega⟩
        · rw [(hT rfl).1, (hT rfl).2] at hRd
          clear hT
          have HX := Lib.hid hact
          have HD := Lib.hid hDo
          have HR := Lib.hid hRd
          have HR0 := Lib.hid hR0
          clear hact hDo hRd hR0
          go_wp2_with fail
          refine (dSlot0_any _ _ _ _ hDk).mono ?_
          rintro e w8 ⟨rfl, rfl⟩
          go_wp2_with fail
          refine (dSlot1_any _ _ _ _ hDk).mono ?_
          rintro e w8 ⟨rfl, rfl⟩
          go_wp2_with fail
          refine (HR0.out _ hDk).mono ?_
          rintro e w3 ⟨rfl, hb3⟩
          have hDk3 := hDk.below hb3 hDk.lt
          have hbr3 := hbr.trans (hb3.mono hbr.size)
          obtain ⟨c0, c1, c2, c3⟩ := HX.out.below hbr3 hB
          dsimp only at c0 c1 c2
          go_wp2_with fail
          refine (HD.out _ hDk3).mono ?_
          rintro e w4 ⟨rfl, hst⟩
          have hb4 := hst.out hbr3 hDw hbr3.size
          clear c0 c1 c2 c3
          go_wp2_with fail
          refine (dSlot0_any _ _ _ _ hst.1).mono ?_
          rintro e w8 ⟨rfl, rfl⟩
          go_wp2_with fail
          refine (dSlot0_any _ _ _ _ hst.1).mono ?_
          rintro e w8 ⟨rfl, rfl⟩
          go_wp2_with fail
          refine (dSlot1_any _ _ _ _ hst.1).mono ?_
          rintro e w8 ⟨rfl, rfl⟩
          go_wp2_with fail
          refine (HR.out _ hst.1).mono ?_
          rintro e w5 ⟨rfl, hb5⟩
          have hDk5 := hst.1.below hb5 hst.1.lt
          have hb5 := hb4.trans (hb5.mono hb4.size)
          obtain ⟨c0, c1, c2, c3⟩ := HX.out.below hb5 hB
          dsimp only at c0 c1 c2
          go_wp2
          exact ⟨⟨k + 1, a', b', by omega, by go_num, hz', hDk5, hb5⟩, by simp [intOf]; omega⟩
      · obtain ⟨kc, hp1⟩ := key
        subst kc hp1
        cases xt
        · clear hT
          have HX := Lib.hid hact
          have HD := Lib.hid hDo
          have HR := Lib.hid hRd
          have HR0 := Lib.hid hR0
          clear hact hDo hRd hR0
          go_wp2_with fail
          refine (dSlot0_any _ _ _ _ hDk).mono ?_
          rintro e w8 ⟨rfl, rfl⟩
          go_wp2_with fail
          refine (dSlot1_any _ _ _ _ hDk).mono ?_
          rintro e w8 ⟨rfl, rfl⟩
          go_wp2_with fail
          refine (HR0.out _ hDk).mono ?_
          rintro e w3 ⟨rfl, hb3⟩
          have hDk3 := hDk.below hb3 hDk.lt
          have hbr3 := hbr.trans (hb3.mono hbr.size)
          obtain ⟨c0, c1, c2, c3⟩ := HX.out.below hbr3 hB
          dsimp only at c0 c1 c2
          go_wp2_with fail
          refine (HD.out _ hDk3).mono ?_
          rintro e w4 ⟨rfl, hst⟩
          have hb4 := hst.out hbr3 hDw hbr3.size
          clear c0 c1 c2 c3
          go_wp2_with fail
          refine (dSlot0_any _ _ _ _ hst.1).mono ?_
          rintro e w8 ⟨rfl, rfl⟩
          go_wp2_with fail
          refine (HR.out _ hst.1).mono ?_
          rintro e w5 ⟨rfl, hb5⟩
          have hDk5 := hst.1.below hb5 hst.1.lt
          have hb5 := hb4.trans (hb5.mono hb4.size)
          obtain ⟨c0, c1, c2, c3⟩ := HX.out.below hb5 hB
          dsimp only at c0 c1 c2
          go_wp2
          exact ⟨⟨k + 1, a', b', by omega, by go_num, hz', hDk5, hb5⟩, by simp [intOf]; omega⟩
        · rw [(hT rfl).1, (hT rfl).2] at hRd
          clear hT
          have HX := Lib.hid hact
          have HD := Lib.hid hDo
          have HR := Lib.hid hRd
          have HR0 := Lib.hid hR0
          clear hact hDo hRd hR0
          go_wp2_with fail
          refine (dSlot0_any _ _ _ _ hDk).mono ?_
          rintro e w8 ⟨rfl, rfl⟩
          go_wp2_with fail
          refine (dSlot1_any _ _ _ _ hDk).mono ?_
          rintro e w8 ⟨rfl, rfl⟩
          go_wp2_with fail
          refine (HR0.out _ hDk).mono ?_
          rintro e w3 ⟨rfl, hb3⟩
          have hDk3 := hDk.below hb3 hDk.lt
          have hbr3 := hbr.trans (hb3.mono hbr.size)
          obtain ⟨c0, c1, c2, c3⟩ := HX.out.below hbr3 hB
          dsimp only at c0 c1 c2
          go_wp2_with fail
          refine (HD.out _ hDk3).mono ?_
          rintro e w4 ⟨rfl, hst⟩
          have hb4 := hst.out hbr3 hDw hbr3.size
          clear c0 c1 c2 c3
          go_wp2_with fail
          refine (dSlot0_any _ _ _ _ hst.1).mono ?_
          rintro e w8 ⟨rfl, rfl⟩
          go_wp2_with fail
          refine (HR.out _ hst.1).mono ?_
          rintro e w5 ⟨rfl, hb5⟩
          have hDk5 := hst.1.below hb5 hst.1.lt
          have hb5 := hb4.trans (hb5.mono hb4.size)
          obtain ⟨c0, c1, c2, c3⟩ := HX.out.below hb5 hB
          dsimp only at c0 c1 c2
          go_wp2
          exact ⟨⟨k + 1, a', b', by omega, by go_num, hz', hDk5, hb5⟩, by simp [intOf]; omega⟩
      · obtain ⟨kc, hp1, hp2⟩ := key
        subst kc hp2
        have n0 : ¬ a'.toList = a.toList := fun h => hp1 (by rw [ByteArray.toList_eq, ByteArray.toList_eq] at h; exact bax h)
        have n1 : (a'.toList != a.toList) = true := by simpa using n0
        have n2 : (a'.toList == a.toList) = false := by simpa using n0
        have n3 : decide (a' = a) = false := decide_eq_false hp1
        cases xt
        · clear hT
          have HX := Lib.hid hact
          have HD := Lib.hid hDo
          have HR := Lib.hid hRd
          have HR0 := Lib.hid hR0
          clear hact hDo hRd hR0
          go_wp2_with fail
          refine (dSlot0_any _ _ _ _ hDk).mono ?_
          rintro e w8 ⟨rfl, rfl⟩
          go_wp2_with fail
          refine (dSlot1_any _ _ _ _ hDk).mono ?_
          rintro e w8 ⟨rfl, rfl⟩
          go_wp2_with fail
          refine (HR0.out _ hDk).mono ?_
          rintro e w3 ⟨rfl, hb3⟩
          have hDk3 := hDk.below hb3 hDk.lt
          have hbr3 := hbr.trans (hb3.mono hbr.size)
          obtain ⟨c0, c1, c2, c3⟩ := HX.out.below hbr3 hB
          dsimp only at c0 c1 c2
          go_wp2_with fail
          refine (HD.out _ hDk3).mono ?_
          rintro e w4 ⟨rfl, hst⟩
          have hb4 := hst.out hbr3 hDw hbr3.size
          clear c0 c1 c2 c3
          go_wp2_with fail
          refine (dSlot0_any _ _ _ _ hst.1).mono ?_
          rintro e w8 ⟨rfl, rfl⟩
          go_wp2_with fail
          refine (dSlot1_any _ _ _ _ hst.1).mono ?_
          rintro e w8 ⟨rfl, rfl⟩
          go_wp2_with fail
          refine (HR.out _ hst.1).mono ?_
          rintro e w5 ⟨rfl, hb5⟩
          have hDk5 := hst.1.below hb5 hst.1.lt
          have hb5 := hb4.trans (hb5.mono hb4.size)
          obtain ⟨c0, c1, c2, c3⟩ := HX.out.below hb5 hB
          dsimp only at c0 c1 c2
          go_wp2
          exact ⟨⟨k + 1, a', b', by omega, by go_num, hz', hDk5, hb5⟩, by simp [intOf]; omega⟩
        · rw [(hT rfl).1, (hT rfl).2] at hRd
          clear hT
          have HX := Lib.hid hact
          have HD := Lib.hid hDo
          have HR := Lib.hid hRd
          have HR0 := Lib.hid hR0
          clear hact hDo hRd hR0
          go_wp2_with fail
          refine (dSlot0_any _ _ _ _ hDk).mono ?_
          rintro e w8 ⟨rfl, rfl⟩
          go_wp2_with fail
          refine (dSlot1_any _ _ _ _ hDk).mono ?_
          rintro e w8 ⟨rfl, rfl⟩
          go_wp2_with fail
          refine (HR0.out _ hDk).mono ?_
          rintro e w3 ⟨rfl, hb3⟩
          have hDk3 := hDk.below hb3 hDk.lt
          have hbr3 := hbr.trans (hb3.mono hbr.size)
          obtain ⟨c0, c1, c2, c3⟩ := HX.out.below hbr3 hB
          dsimp only at c0 c1 c2
          go_wp2_with fail
          refine (HD.out _ hDk3).mono ?_
          rintro e w4 ⟨rfl, hst⟩
          have hb4 := hst.out hbr3 hDw hbr3.size
          clear c0 c1 c2 c3
          go_wp2_with fail
          refine (dSlot0_any _ _ _ _ hst.1).mono ?_
          rintro e w8 ⟨rfl, rfl⟩
          go_wp2_with fail
          refine (dSlot1_any _ _ _ _ hst.1).mono ?_
          rintro e w8 ⟨rfl, rfl⟩
          go_wp2_with fail
          refine (HR.out _ hst.1).mono ?_
          rintro e w5 ⟨rfl, hb5⟩
          have hDk5 := hst.1.below hb5 hst.1.lt
          have hb5 := hb4.trans (hb5.mono hb4.size)
          obtain ⟨c0, c1, c2, c3⟩ := HX.out.below hb5 hB
          dsimp only at c0 c1 c2
          go_wp2
          exact ⟨⟨k + 1, a', b', by omega, by go_num, hz', hDk5, hb5⟩, by simp [intOf]; omega⟩
    · have hbool : decide ((k : Int) < (l.length : Int)) = false := by simpa using hlt
      go_wp2
      go_ret
      exact ⟨rfl, hbr⟩
end Go.Proofs.Ytchonlodehogpaa
