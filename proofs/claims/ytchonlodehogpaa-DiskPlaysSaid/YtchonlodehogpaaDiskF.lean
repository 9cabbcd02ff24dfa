/-
  What the reference's put, Write, Tear and Read return.
  Conditions: slots of at most 1000000 bytes.
-/
import Derived.Test.YtchonlodehogpaaDiskE
namespace Go.Proofs.Ytchonlodehogpaa
set_option linter.unusedVariables false
open Go.RowKit
theorem strL_size (l : List UInt8) : (strL l).size = l.length := rfl
theorem nil_app (x : ByteArray) : (⟨#[]⟩ : ByteArray) ++ x = x := bax (by rw [ByteArray.data_append]; simp)
def twoV (a b : ByteArray) : Value := .agg #[.string a, .string b]
theorem refRead_any (a b : ByteArray) (w : World) (ha : a.size ≤ 1000000) (hb : b.size ≤ 1000000) :
    Calls Try.prog 36 #[twoV a b] w fun e w' => e = .returned (.tuple #[.string (txtD a b), .bool (anyD a b)]) ∧ Below w.heap.size w w' := by
  have h := refnewest_any a b (w.alloc (.cells #[.string a, .string b] 54)) ha hb
  have hc : decide (0 < atD a b + 1) = anyD a b := by
    unfold anyD
    rcases atD_cases a b with h | h | h <;> rw [h] <;> decide
  have H := Lib.hid h
  have HC := Lib.hid hc
  clear h hc
  unfold twoV
  go_enter Try.func36, Try.ntmps36
  go_wp2_with fail
  refine H.out.mono ?_
  rintro e w1 ⟨rfl, hb1⟩
  go_wp2
  go_ret2
  exact ⟨by rw [← HC.out]; rfl, bt (ba (br _) _) hb1⟩
set_option maxHeartbeats 1000000 in
theorem refput_any (a b s : ByteArray) (keep : Int) (w : World) (ha : a.size ≤ 1000000) (hb : b.size ≤ 1000000) (hs : s.size ≤ 8192) (B : ByteArray) (hB : B = if 0 ≤ keep then (newB a b s).extract 0 (keepN (newB a b s) keep) else newB a b s) :
    Calls Try.prog 53 #[twoV a b, .string s, .int .i64 keep] w fun e w' => e = .returned (twoV (putD a b B).1 (putD a b B).2) ∧ Below w.heap.size w w' := by
  have hw : IntKind.u64.wrap ((numD a b : Int) + 1) = (nextN a b : Int) := by rw [IntKind.wrap_u64]; unfold nextN; omega
  have hN : nextN a b < 18446744073709551616 := Nat.mod_lt _ (by omega)
  have hz : (newB a b s).size = s.size + 14 := recB_size _ _
  have hR : newB a b s = sealB (((⟨#[]⟩ ++ strL (putL (nextN a b) 8)) ++ strL (putL s.size 2)) ++ s) := by
    unfold newB recB recT
    congr 2
  generalize nextN a b = N at *
  generalize hn : numD a b = n at *
  have hx1 : (⟨#[]⟩ ++ strL (putL N 8)).size = 8 := by rw [nil_app, strL_size, putL_length]
  have hx2 : ((⟨#[]⟩ ++ strL (putL N 8)) ++ strL (putL s.size 2)).size = 10 := by rw [ByteArray.size_append, hx1, strL_size, putL_length]
  have hx3 : (((⟨#[]⟩ ++ strL (putL N 8)) ++ strL (putL s.size 2)) ++ s).size = s.size + 10 := by rw [ByteArray.size_append, hx2]; omega
  have hP1 := fun W : World => refPut_any ⟨#[]⟩ N 8 W (by decide) hN (by omega)
  have hP2 := fun W : World => refPut_any (⟨#[]⟩ ++ strL (putL N 8)) s.size 2 W (by omega) (by omega) (by omega)
  have hS := fun W : World => refSeal_any (((⟨#[]⟩ ++ strL (putL N 8)) ++ strL (putL s.size 2)) ++ s) W (by omega)
  rw [← hR] at hS
  have hNew := fun W : World => refnewest_any a b W ha hb
  rw [hn] at hNew
  generalize (⟨#[]⟩ ++ strL (putL N 8)) = H1 at *
  generalize (H1 ++ strL (putL s.size 2)) = H2 at *
  have hk : keep ≤ (s.size : Int) + 13 → 0 ≤ keep → keepN (newB a b s) keep = keep.toNat := by unfold keepN; omega
  have hk2 : (s.size : Int) + 13 < keep → keepN (newB a b s) keep = s.size + 13 := by unfold keepN; omega
  generalize newB a b s = R at *
  have h3 : (keep < 0 ∧ B = R) ∨ (0 ≤ keep ∧ keep ≤ (s.size : Int) + 13 ∧ B = R.extract 0 keep.toNat) ∨ ((s.size : Int) + 13 < keep ∧ B = R.extract 0 (s.size + 13)) := by
    by_cases h1 : keep < 0
    · exact .inl ⟨h1, by rw [hB, if_neg (by omega)]⟩
    · by_cases h2 : keep ≤ (s.size : Int) + 13
      · exact .inr (.inl ⟨by omega, h2, by rw [hB, if_pos (by omega), hk h2 (by omega)]⟩)
      · exact .inr (.inr ⟨by omega, by rw [hB, if_pos (by omega), hk2 (by omega)]⟩)
  clear hB hk hk2
  have hA : (atD a b = 0 ∧ putD a b B = (a, B)) ∨ (atD a b ≠ 0 ∧ putD a b B = (B, b)) := by
    unfold putD
    by_cases h : atD a b = 0
    · exact .inl ⟨h, if_pos h⟩
    · exact .inr ⟨h, if_neg h⟩
  generalize putD a b B = p at *
  generalize atD a b = A at *
  generalize txtD a b = T at *
  have HW := Lib.hid (And.intro hP1 (And.intro hP2 (And.intro hS hNew)))
  clear hP1 hP2 hS hNew hR hx1 hn
  rcases h3 with ⟨g1, rfl⟩ | ⟨g1, g2, rfl⟩ | ⟨g1, rfl⟩
  · have d1 : decide ((0 : Int) ≤ keep) = false := by simp; omega
    rcases hA with ⟨rfl, rfl⟩ | ⟨hA, rfl⟩
    · unfold twoV
      go_enter Try.func53, Try.ntmps53
      go_wp2_with fail
      refine (HW.out.2.2.2 _).mono ?_
      rintro e w1 ⟨rfl, hb1⟩
      go_wp2_with fail
      refine (HW.out.1 _).mono ?_
      rintro e w2 ⟨rfl, hb2⟩
      go_wp2_with fail
      refine (HW.out.2.1 _).mono ?_
      rintro e w3 ⟨rfl, hb3⟩
      go_wp2_with fail
      refine (HW.out.2.2.1 _).mono ?_
      rintro e w4 ⟨rfl, hb4⟩
      have hb5 := bt (bt (bt hb1 hb2) hb3) hb4
      have hK := (DkAt.new a b w 54).below (ba (br _) (.cells #[.string ⟨#[]⟩, .string ⟨#[]⟩] 54)) (by simp)
      have hM := DkAt.new ⟨#[]⟩ ⟨#[]⟩ (w.alloc (.cells #[.string a, .string b] 54)) 54
      rw [show (w.alloc (.cells #[.string a, .string b] 54)).heap.size = w.heap.size + 1 from by simp] at hM
      obtain ⟨k0, k1, kf0, kf1⟩ := hK.below hb5 (by simp; omega)
      obtain ⟨m0, m1, mf0, mf1⟩ := hM.below hb5 (by simp)
      have hb6 := bt (ba (ba (br w) _) _) hb5
      clear hb1 hb2 hb3 hb4 hb5 hK hM
      go_wp2
      refine bodyPost_ret (v := .agg #[.string a, .string B]) (by simp [results, Try.results53, go_sem, m0, m1]) rfl ⟨rfl, ?_⟩
      exact bs (bs (bs hb6 (Nat.le_refl _) _) (Nat.le_succ _) _) (Nat.le_succ _) _
    · have n1 : (A + 1 == 1) = false := by simp; omega
      have n2 : ¬ (A + 1 = 1) := by omega
      have n3 : decide (A = 0) = false := by simpa using hA
      unfold twoV
      go_enter Try.func53, Try.ntmps53
      go_wp2_with fail
      refine (HW.out.2.2.2 _).mono ?_
      rintro e w1 ⟨rfl, hb1⟩
      go_wp2_with fail
      refine (HW.out.1 _).mono ?_
      rintro e w2 ⟨rfl, hb2⟩
      go_wp2_with fail
      refine (HW.out.2.1 _).mono ?_
      rintro e w3 ⟨rfl, hb3⟩
      go_wp2_with fail
      refine (HW.out.2.2.1 _).mono ?_
      rintro e w4 ⟨rfl, hb4⟩
      have hb5 := bt (bt (bt hb1 hb2) hb3) hb4
      have hK := (DkAt.new a b w 54).below (ba (br _) (.cells #[.string ⟨#[]⟩, .string ⟨#[]⟩] 54)) (by simp)
      have hM := DkAt.new ⟨#[]⟩ ⟨#[]⟩ (w.alloc (.cells #[.string a, .string b] 54)) 54
      rw [show (w.alloc (.cells #[.string a, .string b] 54)).heap.size = w.heap.size + 1 from by simp] at hM
      obtain ⟨k0, k1, kf0, kf1⟩ := hK.below hb5 (by simp; omega)
      obtain ⟨m0, m1, mf0, mf1⟩ := hM.below hb5 (by simp)
      have hb6 := bt (ba (ba (br w) _) _) hb5
      clear hb1 hb2 hb3 hb4 hb5 hK hM
      go_wp2
      refine bodyPost_ret (v := .agg #[.string B, .string b]) (by simp [results, Try.results53, go_sem, m0, m1]) rfl ⟨rfl, ?_⟩
      exact bs (bs (bs hb6 (Nat.le_refl _) _) (Nat.le_succ _) _) (Nat.le_succ _) _
  · have d1 : decide ((0 : Int) ≤ keep) = true := by simp; omega
    have d2 : decide ((s.size : Int) + 14 - 1 < keep) = false := by simp; omega
    have q1 : keep ≤ (s.size : Int) + 14 := by omega
    rcases hA with ⟨rfl, rfl⟩ | ⟨hA, rfl⟩
    · unfold twoV
      go_enter Try.func53, Try.ntmps53
      go_wp2_with fail
      refine (HW.out.2.2.2 _).mono ?_
      rintro e w1 ⟨rfl, hb1⟩
      go_wp2_with fail
      refine (HW.out.1 _).mono ?_
      rintro e w2 ⟨rfl, hb2⟩
      go_wp2_with fail
      refine (HW.out.2.1 _).mono ?_
      rintro e w3 ⟨rfl, hb3⟩
      go_wp2_with fail
      refine (HW.out.2.2.1 _).mono ?_
      rintro e w4 ⟨rfl, hb4⟩
      have hb5 := bt (bt (bt hb1 hb2) hb3) hb4
      have hK := (DkAt.new a b w 54).below (ba (br _) (.cells #[.string ⟨#[]⟩, .string ⟨#[]⟩] 54)) (by simp)
      have hM := DkAt.new ⟨#[]⟩ ⟨#[]⟩ (w.alloc (.cells #[.string a, .string b] 54)) 54
      rw [show (w.alloc (.cells #[.string a, .string b] 54)).heap.size = w.heap.size + 1 from by simp] at hM
      obtain ⟨k0, k1, kf0, kf1⟩ := hK.below hb5 (by simp; omega)
      obtain ⟨m0, m1, mf0, mf1⟩ := hM.below hb5 (by simp)
      have hb6 := bt (ba (ba (br w) _) _) hb5
      clear hb1 hb2 hb3 hb4 hb5 hK hM
      go_wp2
      refine bodyPost_ret (v := .agg #[.string a, .string (R.extract 0 keep.toNat)]) (by simp [results, Try.results53, go_sem, m0, m1]) rfl ⟨rfl, ?_⟩
      exact bs (bs (bs hb6 (Nat.le_refl _) _) (Nat.le_succ _) _) (Nat.le_succ _) _
    · have n1 : (A + 1 == 1) = false := by simp; omega
      have n2 : ¬ (A + 1 = 1) := by omega
      have n3 : decide (A = 0) = false := by simpa using hA
      unfold twoV
      go_enter Try.func53, Try.ntmps53
      go_wp2_with fail
      refine (HW.out.2.2.2 _).mono ?_
      rintro e w1 ⟨rfl, hb1⟩
      go_wp2_with fail
      refine (HW.out.1 _).mono ?_
      rintro e w2 ⟨rfl, hb2⟩
      go_wp2_with fail
      refine (HW.out.2.1 _).mono ?_
      rintro e w3 ⟨rfl, hb3⟩
      go_wp2_with fail
      refine (HW.out.2.2.1 _).mono ?_
      rintro e w4 ⟨rfl, hb4⟩
      have hb5 := bt (bt (bt hb1 hb2) hb3) hb4
      have hK := (DkAt.new a b w 54).below (ba (br _) (.cells #[.string ⟨#[]⟩, .string ⟨#[]⟩] 54)) (by simp)
      have hM := DkAt.new ⟨#[]⟩ ⟨#[]⟩ (w.alloc (.cells #[.string a, .string b] 54)) 54
      rw [show (w.alloc (.cells #[.string a, .string b] 54)).heap.size = w.heap.size + 1 from by simp] at hM
      obtain ⟨k0, k1, kf0, kf1⟩ := hK.below hb5 (by simp; omega)
      obtain ⟨m0, m1, mf0, mf1⟩ := hM.below hb5 (by simp)
      have hb6 := bt (ba (ba (br w) _) _) hb5
      clear hb1 hb2 hb3 hb4 hb5 hK hM
      go_wp2
      refine bodyPost_ret (v := .agg #[.string (R.extract 0 keep.toNat), .string b]) (by simp [results, Try.results53, go_sem, m0, m1]) rfl ⟨rfl, ?_⟩
      exact bs (bs (bs hb6 (Nat.le_refl _) _) (Nat.le_succ _) _) (Nat.le_succ _) _
  · have d1 : decide ((0 : Int) ≤ keep) = true := by simp; omega
    have d2 : decide ((s.size : Int) + 14 - 1 < keep) = true := by simp; omega
    rcases hA with ⟨rfl, rfl⟩ | ⟨hA, rfl⟩
    · unfold twoV
      go_enter Try.func53, Try.ntmps53
      go_wp2_with fail
      refine (HW.out.2.2.2 _).mono ?_
      rintro e w1 ⟨rfl, hb1⟩
      go_wp2_with fail
      refine (HW.out.1 _).mono ?_
      rintro e w2 ⟨rfl, hb2⟩
      go_wp2_with fail
      refine (HW.out.2.1 _).mono ?_
      rintro e w3 ⟨rfl, hb3⟩
      go_wp2_with fail
      refine (HW.out.2.2.1 _).mono ?_
      rintro e w4 ⟨rfl, hb4⟩
      have hb5 := bt (bt (bt hb1 hb2) hb3) hb4
      have hK := (DkAt.new a b w 54).below (ba (br _) (.cells #[.string ⟨#[]⟩, .string ⟨#[]⟩] 54)) (by simp)
      have hM := DkAt.new ⟨#[]⟩ ⟨#[]⟩ (w.alloc (.cells #[.string a, .string b] 54)) 54
      rw [show (w.alloc (.cells #[.string a, .string b] 54)).heap.size = w.heap.size + 1 from by simp] at hM
      obtain ⟨k0, k1, kf0, kf1⟩ := hK.below hb5 (by simp; omega)
      obtain ⟨m0, m1, mf0, mf1⟩ := hM.below hb5 (by simp)
      have hb6 := bt (ba (ba (br w) _) _) hb5
      clear hb1 hb2 hb3 hb4 hb5 hK hM
      go_wp2
      refine bodyPost_ret (v := .agg #[.string a, .string (R.extract 0 (s.size + 13))]) (by simp [results, Try.results53, go_sem, m0, m1]) rfl ⟨rfl, ?_⟩
      exact bs (bs (bs hb6 (Nat.le_refl _) _) (Nat.le_succ _) _) (Nat.le_succ _) _
    · have n1 : (A + 1 == 1) = false := by simp; omega
      have n2 : ¬ (A + 1 = 1) := by omega
      have n3 : decide (A = 0) = false := by simpa using hA
      unfold twoV
      go_enter Try.func53, Try.ntmps53
      go_wp2_with fail
      refine (HW.out.2.2.2 _).mono ?_
      rintro e w1 ⟨rfl, hb1⟩
      go_wp2_with fail
      refine (HW.out.1 _).mono ?_
      rintro e w2 ⟨rfl, hb2⟩
      go_wp2_with fail
      refine (HW.out.2.1 _).mono ?_
      rintro e w3 ⟨rfl, hb3⟩
      go_wp2_with fail
      refine (HW.out.2.2.1 _).mono ?_
      rintro e w4 ⟨rfl, hb4⟩
      have hb5 := bt (bt (bt hb1 hb2) hb3) hb4
      have hK := (DkAt.new a b w 54).below (ba (br _) (.cells #[.string ⟨#[]⟩, .string ⟨#[]⟩] 54)) (by simp)
      have hM := DkAt.new ⟨#[]⟩ ⟨#[]⟩ (w.alloc (.cells #[.string a, .string b] 54)) 54
      rw [show (w.alloc (.cells #[.string a, .string b] 54)).heap.size = w.heap.size + 1 from by simp] at hM
      obtain ⟨k0, k1, kf0, kf1⟩ := hK.below hb5 (by simp; omega)
      obtain ⟨m0, m1, mf0, mf1⟩ := hM.below hb5 (by simp)
      have hb6 := bt (ba (ba (br w) _) _) hb5
      clear hb1 hb2 hb3 hb4 hb5 hK hM
      go_wp2
      refine bodyPost_ret (v := .agg #[.string (R.extract 0 (s.size + 13)), .string b]) (by simp [results, Try.results53, go_sem, m0, m1]) rfl ⟨rfl, ?_⟩
      exact bs (bs (bs hb6 (Nat.le_refl _) _) (Nat.le_succ _) _) (Nat.le_succ _) _
end Go.Proofs.Ytchonlodehogpaa
