/-
  What the reference's maker makes of configurations and vectors.
  Conditions: those that each theorem names.
-/
import Derived.Test.YtgpojbmloielmaaPackH
namespace Go.Proofs.Ytgpojbmloielmaa
set_option linter.unusedVariables false
set_option linter.unusedSimpArgs false
open Go.RowKit
theorem cat_assoc (a b c : Except Int (List UInt8)) : cat (cat a b) c = cat a (cat b c) := by
  cases a <;> cases b <;> cases c <;> simp [cat, Except.map]
theorem nil_cat (a : Except Int (List UInt8)) : cat (.ok []) a = a := by cases a <;> simp [cat, Except.map]
set_option maxHeartbeats 8000000 in
theorem mConf_any {w0 w : World} {s : ByteArray} {e : Int} (h : MkAt w0.heap.size w0 w s e) (ep : Nat) (r : Int) (hx : ep < 18446744073709551616) (hl : s.size ≤ 99000000) :
    Calls Try.prog 67 #[.pointer (some ⟨w0.heap.size, 0, none⟩), .agg (#[Value.int .u64 (ep : Int), .int .i64 r])] w fun en w' => MkEnd w0.heap.size w0 w s e (confL ep r) (9) en w' := by
  obtain ⟨N, hN⟩ : ∃ N, N = w.heap.size := ⟨_, rfl⟩
  obtain ⟨W, hW⟩ : ∃ W, W = w.alloc (.cells (#[Value.int .u64 (ep : Int), .int .i64 r]) 28) := ⟨_, rfl⟩
  have hbA := ba (br w) (.cells (#[Value.int .u64 (ep : Int), .int .i64 r]) 28)
  have hxA := heap_alloc_new w (.cells (#[Value.int .u64 (ep : Int), .int .i64 r]) 28)
  rw [← hW] at hxA hbA
  rw [← hN] at hxA
  have h1 := h.below hbA
  have hne : N ≠ w0.heap.size := by have := h.lt; omega
  have HB := Lib.hid (And.intro hne (And.intro (Kept.of_below (S := fun b => b = w0.heap.size) hbA) hxA))
  have HL := Lib.hid hl
  have k1 : Kept (fun b => b = w0.heap.size) W W := .refl _ _
  have z1 : s.size ≤ s.size + 0 := Nat.le_refl _
  have r1 := MkR.refl s e
  have HX := Lib.hid hx
  clear hx
  clear hne hbA h hl hxA
  go_enter Try.func67, Try.ntmps67
  go_upto_region 1 with (fail)
  rw [← hW, ← hN]
  clear hW hN
  have b1 := k1.keep HB.out.2.2 HB.out.1
  have c0 : W.cell? ⟨N, 0, none⟩ = some (.int .u64 (ep : Int)) := cell_of_row _ _ 0 _ _ _ b1
  have H1 := Lib.hid (mNum_any h1 ep 8 (by have := HL.out; omega) HX.out (by omega))
  have HK1 := Lib.hid (And.intro k1 (And.intro z1 r1))
  clear h1 k1 r1 b1
  go_wp2_with fail
  refine H1.out.mono ?_
  rintro en w2 ⟨rfl, s2, e2, h2, k2, z2, r2⟩
  replace k2 := HK1.out.1.trans k2
  replace z2 : s2.size ≤ s.size + (0 + 8) := by have := HK1.out.2.1; omega
  replace r2 := HK1.out.2.2.seq r2
  clear c0
  clear H1 HK1 z1
  have b2 := k2.keep HB.out.2.2 HB.out.1
  have c1 : w2.cell? ⟨N, 1, none⟩ = some (.int .i64 r) := cell_of_row _ _ 1 _ _ _ b2
  have H2 := Lib.hid (mProc_any h2 r (by have := HL.out; omega))
  have HK2 := Lib.hid (And.intro k2 (And.intro z2 r2))
  clear h2 k2 r2 b2
  go_wp2_with fail
  refine H2.out.mono ?_
  rintro en w3 ⟨rfl, s3, e3, h3, k3, z3, r3⟩
  replace k3 := HK2.out.1.trans k3
  replace z3 : s3.size ≤ s.size + (0 + 8 + 1) := by have := HK2.out.2.1; omega
  replace r3 := HK2.out.2.2.seq r3
  clear c1
  clear H2 HK2 z2
  have HE := Lib.hid (MkEnd.eq (K' := (9)) (w := w) (show MkEnd w0.heap.size w0 w s e _ (0 + 8 + 1) (.returned (.tuple #[])) w3 from ⟨rfl, s3, e3, h3, HB.out.2.1.trans k3, z3, r3⟩) (by rw [nil_cat] <;> rfl) (by omega))
  clear h3 k3 r3 z3
  go_wp2_with fail
  go_end0
  exact HE.out
/-- a loop that stops at an error -/
theorem MkR.keep {s : ByteArray} {e : Int} {x : List UInt8} {s' : ByteArray} {e' : Int} (h : MkR s e (.ok x) s' e') (he : e' ≠ 0) (r : Except Int (List UInt8)) : MkR s e r s' e' := by
  by_cases h0 : e = 0
  · exact absurd ((h.2 h0).1 x rfl).2 he
  · exact ⟨h.1, fun h1 => absurd h1 h0⟩
theorem MkR.zero {s : ByteArray} {e : Int} {r : Except Int (List UInt8)} {s' : ByteArray} (h : MkR s e r s' 0) : e = 0 ∧ ∃ x, r = .ok x := by
  by_cases h0 : e = 0
  · refine ⟨h0, ?_⟩
    cases r with
    | ok x => exact ⟨x, rfl⟩
    | error c => obtain ⟨h1, h2⟩ := (h.2 h0).2 c rfl; exact absurd h1.symm h2
  · exact absurd (h.1 h0).symm h0
set_option maxHeartbeats 4000000 in
theorem mVec_any {w0 w : World} {s : ByteArray} {e : Int} (h : MkAt w0.heap.size w0 w s e) (da : Option Addr) (dc : Nat) (ds : List Nat) (hd : NumsOk w0 da ds) (hl : s.size ≤ 99000000) :
    Calls Try.prog 70 #[.pointer (some ⟨w0.heap.size, 0, none⟩), .slice da ds.length dc] w fun en w' => MkEnd w0.heap.size w0 w s e (vecL ds) 257 en w' := by
  obtain ⟨n, hn⟩ : ∃ n, n = ds.length := ⟨_, rfl⟩
  have hn5 : n ≤ 35184372087808 := by rw [hn]; exact hd.1
  obtain ⟨b, hb⟩ : ∃ b : Bool, b = decide (64 < n) := ⟨_, rfl⟩
  have hb2 : decide ((64 : Int) < (n : Int)) = b := by rw [hb, decide_eq_decide]; omega
  have HB := Lib.hid (mBad_any h 3 (by decide) b)
  have hw : IntKind.u64.wrap (n : Int) = (n : Int) := by rw [IntKind.wrap_u64]; omega
  have HD := Lib.hid hd
  have HN := Lib.hid (And.intro hn (And.intro hl hb))
  have HV := Lib.hid (show vecL ds = cat (cat (badL 3 b) (.ok (putL n 1))) (.ok (vecB ds)) from by
    unfold vecL badL
    rw [hb, hn]
    by_cases h64 : 64 < ds.length
    · rw [if_pos h64, if_pos (by simpa using h64)]; rfl
    · rw [if_neg h64, if_neg (by simpa using h64)]; rfl)
  rw [← hn]
  have hbs := hb.symm
  clear h hd hl hn hb
  go_enter Try.func70, Try.ntmps70
  go_wp2_with fail
  refine HB.out.mono ?_
  rintro en w1 ⟨rfl, s1, e1, h1, k1, z1, r1⟩
  have H1 := Lib.hid (mNum_any h1 n 1 (by have := HN.out.2.1; omega) (by omega) (by omega))
  have HK := Lib.hid (And.intro k1 (And.intro z1 r1))
  clear h1 k1 z1 r1 HB hbs hb2
  go_wp2_with fail
  refine H1.out.mono ?_
  rintro en w2 ⟨rfl, s2, e2, h2, k2, z2, r2⟩
  have H2 := Lib.hid (And.intro h2 (And.intro (HK.out.1.trans k2) (And.intro (show s2.size ≤ s.size + 1 by have := HK.out.2.1; omega) (HK.out.2.2.seq r2))))
  clear h2 k2 z2 r2 H1 HK hw
  go_wp2_with fail
  go_loopw [4] (fun i wr => ∃ (k : Nat) (s' : ByteArray) (e' : Int), k ≤ n ∧ (k = 0 ∨ n ≤ 64) ∧ i = .int .i64 (k : Int) ∧ MkAt w0.heap.size w0 wr s' e' ∧ Kept (fun b => b = w0.heap.size) w wr ∧ s'.size ≤ s2.size + 4 * k ∧ MkR s2 e2 (.ok (vecB (ds.take k))) s' e') (fun i _ => n - (intOf i).toNat)
  case atStart => exact ⟨0, s2, e2, by omega, .inl rfl, rfl, H2.out.1, H2.out.2.1, by omega, .refl _ _⟩
  case round =>
    obtain ⟨k, s3, e3, hk, hk6, rfl, h3, k3, z3, r3⟩ := hrel
    have c1 : wr.cell? ⟨w0.heap.size, 1, none⟩ = some (.int .i64 e3) := cell_of_row _ _ 1 _ _ _ h3.1
    by_cases hlt : k < n
    · have hbool : decide ((k : Int) < (n : Int)) = true := by simpa using hlt
      have hki : (k : Int) < (n : Int) := by omega
      by_cases he : e3 = 0
      · subst he
        have hkd : k < ds.length := by rw [← HN.out.1]; exact hlt
        obtain ⟨hv32, b, o, rfl, hb, hc⟩ := HD.out.2 k hkd
        have c0 : wr.cell? ⟨b, o + k, none⟩ = some (.int .u32 (ds[k] : Int)) := (h3.2.1.cell (p := ⟨b, o + k, none⟩) hb).trans hc
        have hsucc := vecB_succ hkd
        generalize ds[k] = x at *
        have hwx : IntKind.u64.wrap (x : Int) = (x : Int) := by rw [IntKind.wrap_u64]; omega
        have hk63 : n ≤ 64 := by
          obtain ⟨h5, _⟩ := r3.zero
          subst h5
          obtain ⟨_, x', h7⟩ := H2.out.2.2.2.zero
          have h8 := HN.out.2.2
          by_cases h64 : 64 < n
          · rw [decide_eq_true h64] at h8
            rw [h8] at h7
            cases h7
          · omega
        have H3 := Lib.hid (mNum_any h3 x 4 (by have := HN.out.2.1; have := H2.out.2.2.1; omega) (by omega) (by omega))
        have HK3 := Lib.hid (And.intro k3 (And.intro z3 (And.intro r3 (And.intro hsucc (And.intro hlt hk63)))))
        clear h3 k3 z3 r3 hsucc hlt hc hb hkd hv32 hk hk6 hk63
        go_wp2_with fail
        refine H3.out.mono ?_
        rintro en w4 ⟨rfl, s4, e4, h4, k4, z4, r4⟩
        have HE := Lib.hid (And.intro h4 (And.intro (HK3.out.1.trans k4) (And.intro (show s4.size ≤ s2.size + 4 * (k + 1) by have := HK3.out.2.1; omega) (show MkR s2 e2 (.ok (vecB (ds.take (k + 1)))) s4 e4 from by rw [HK3.out.2.2.2.1]; exact HK3.out.2.2.1.seq r4))))
        clear h4 k4 z4 r4 H3 c0 c1
        go_wp2_with fail
        exact ⟨⟨k + 1, s4, e4, HK3.out.2.2.2.2.1, .inr HK3.out.2.2.2.2.2, by go_num, HE.out⟩, measI HK3.out.2.2.2.2.1⟩
      · have he2 : (e3 == 0) = false := by simpa using he
        have he3 : decide (e3 = 0) = false := by simpa using he
        have HE := Lib.hid (show MkEnd w0.heap.size w0 w s e (vecL ds) 257 (.returned (.tuple #[])) wr from by
          refine ⟨rfl, s3, e3, h3, k3, by have := H2.out.2.2.1; omega, ?_⟩
          rw [show vecL ds = cat (cat (badL 3 b) (.ok (putL n 1))) (.ok (vecB ds)) from HV.out]
          exact H2.out.2.2.2.seq (r3.keep he _))
        clear h3 k3 z3 r3
        go_wp2_with fail
        go_end0
        exact HE.out
    · have hbool : decide ((k : Int) < (n : Int)) = false := by simpa using hlt
      have HE := Lib.hid (show MkEnd w0.heap.size w0 w s e (vecL ds) 257 (.returned (.tuple #[])) wr from by
          refine ⟨rfl, s3, e3, h3, k3, by have := H2.out.2.2.1; omega, ?_⟩
          rw [show vecL ds = cat (cat (badL 3 b) (.ok (putL n 1))) (.ok (vecB ds)) from HV.out]
          exact H2.out.2.2.2.seq (by rw [List.take_of_length_le (by rw [← HN.out.1]; omega)] at r3; exact r3))
      clear h3 k3 z3 r3
      go_wp2_with fail
      go_end0
      exact HE.out
end Go.Proofs.Ytgpojbmloielmaa
