/-
  What the reference's Parse of a frame returns.
  Conditions: a text has at most 1000000 bytes.
-/
import Derived.Test.YtgpojbmloielmaaFrameB
namespace Go.Proofs.Ytgpojbmloielmaa
set_option linter.unusedVariables false
open Go.RowKit
theorem results_tmp5 {fn : Func} {t u v x y : Tmp} (h : fn.results = #[.tmp t, .tmp u, .tmp v, .tmp x, .tmp y]) (tmps : Array Value) (P : Program) (w : World) :
    (results fn tmps).run P w = .ok (.tuple #[tmps.getD t undef, tmps.getD u undef, tmps.getD v undef, tmps.getD x undef, tmps.getD y undef]) w := by simp [results, h]
theorem byte_at (s : ByteArray) (i : Nat) (h : i + 4 < s.size) (h2 : i < (cutS s).size) : ((cutS s)[i]).toNat = byteN s i := by
  rw [← valB_one _ _ h2]; exact val_byte s i h
set_option maxHeartbeats 2000000 in
theorem refParse_any (s : ByteArray) (w : World) (hs : s.size ≤ 1000000) :
    Calls Try.prog 24 #[.string s] w fun e w' => e = .returned (.tuple #[.int .i64 (parseN s 2), .int .i64 (parseN s 3), .int .i64 (parseN s 4), .string (parseB s), .int .i64 (parseE s)]) ∧ Below w.heap.size w w' := by
  by_cases h11 : s.size < 11
  · have he : parseE s = 2 := by simp [parseE, h11]
    have e2 : parseN s 2 = 0 := by simp [parseN, he]
    have e3 : parseN s 3 = 0 := by simp [parseN, he]
    have e4 : parseN s 4 = 0 := by simp [parseN, he]
    have eb : parseB s = ⟨#[]⟩ := by simp [parseB, he]
    rw [he, e2, e3, e4, eb]
    clear he e2 e3 e4 eb
    have d1 : decide ((s.size : Int) < 11) = true := by simp; omega
    go_enter Try.func24, Try.ntmps24
    go_wp2
    refine bodyPost_ret (results_tmp5 rfl _ _ _) rfl ?_
    exact ⟨rfl, br _⟩
  have d1 : decide ((s.size : Int) < 11) = false := by simp; omega
  cases hg : goodB s
  · have he : parseE s = 8 := by simp [parseE, h11, hg]
    have e2 : parseN s 2 = 0 := by simp [parseN, he]
    have e3 : parseN s 3 = 0 := by simp [parseN, he]
    have e4 : parseN s 4 = 0 := by simp [parseN, he]
    have eb : parseB s = ⟨#[]⟩ := by simp [parseB, he]
    rw [he, e2, e3, e4, eb]
    clear he e2 e3 e4 eb
    go_enter Try.func24, Try.ntmps24
    go_wp2_with fail
    refine (refOpen_any _ _ (by omega)).mono ?_
    rintro e w1 ⟨rfl, hb1⟩
    go_wp2
    refine bodyPost_ret (results_tmp5 rfl _ _ _) rfl ?_
    exact ⟨rfl, hb1⟩
  have hT := open_cut s hg
  have hz : (cutS s).size + 4 = s.size := by unfold cutS; rw [ByteArray.size_extract]; omega
  obtain ⟨m, hm⟩ : ∃ m, (cutS s).size = m + 7 := ⟨(cutS s).size - 7, by omega⟩
  have v0 : ∀ h : 0 < (cutS s).size, ((cutS s)[0]'h).toNat = byteN s 0 := fun h => byte_at s 0 (by omega) h
  have v1 : ∀ h : 1 < (cutS s).size, ((cutS s)[1]'h).toNat = byteN s 1 := fun h => byte_at s 1 (by omega) h
  have v2 : ∀ h : 2 < (cutS s).size, ((cutS s)[2]'h).toNat = byteN s 2 := fun h => byte_at s 2 (by omega) h
  have v3 : ∀ h : 3 < (cutS s).size, ((cutS s)[3]'h).toNat = byteN s 3 := fun h => byte_at s 3 (by omega) h
  have v4 : ∀ h : 4 < (cutS s).size, ((cutS s)[4]'h).toNat = byteN s 4 := fun h => byte_at s 4 (by omega) h
  have v5 : valB ((cutS s).extract 5 (5 + 2)) = lenN s := rfl
  have l0 := byteN_lt s 0
  have l1 := byteN_lt s 1
  have l2 := byteN_lt s 2
  have l3 := byteN_lt s 3
  have l4 := byteN_lt s 4
  have l5 := lenN_lt s
  have hE : parseE s = if byteN s 0 ≠ 197 then 4 else if byteN s 1 ≠ 1 then 9 else if kindB (byteN s 2) = false then 10
      else if procB (byteN s 3) = false ∨ procB (byteN s 4) = false then 1 else if 32768 < (bodyS s).size ∨ (bodyS s).size ≠ lenN s then 3 else 0 := by
    unfold parseE; rw [if_neg h11, if_neg (by rw [hg]; exact Bool.noConfusion)]
  have hN2 : parseN s 2 = if parseE s = 0 then (byteN s 2 : Int) else 0 := rfl
  have hN3 : parseN s 3 = if parseE s = 0 then (byteN s 3 : Int) else 0 := rfl
  have hN4 : parseN s 4 = if parseE s = 0 then (byteN s 4 : Int) else 0 := rfl
  have hB : parseB s = if parseE s = 0 then bodyS s else ⟨#[]⟩ := rfl
  have hbody : bodyS s = (cutS s).extract 7 (cutS s).size := rfl
  have hbz : (bodyS s).size = m := by rw [hbody, ByteArray.size_extract]; omega
  rw [hm] at hbody
  generalize parseN s 2 = N2 at hN2 ⊢
  generalize parseN s 3 = N3 at hN3 ⊢
  generalize parseN s 4 = N4 at hN4 ⊢
  generalize parseB s = NB at hB ⊢
  generalize parseE s = E at hE hN2 hN3 hN4 hB ⊢
  generalize byteN s 0 = y0 at *
  generalize byteN s 1 = y1 at *
  generalize byteN s 2 = y2 at *
  generalize byteN s 3 = y3 at *
  generalize byteN s 4 = y4 at *
  generalize lenN s = y5 at *
  generalize bodyS s = body at *
  generalize cutS s = t at *
  have HH := Lib.hid (And.intro hE (And.intro hN2 (And.intro hN3 (And.intro hN4 hB))))
  have V5 := Lib.hid v5
  have HB := Lib.hid hbody
  have HZ := Lib.hid hz
  have HM := Lib.hid hm
  have HBZ := Lib.hid hbz
  have hm1 : m ≤ 1000000 := by omega
  clear hE hN2 hN3 hN4 hB v5 hbz
  have hget := fun W : World => refGet_any t 5 2 W (by omega) (by omega) (by omega) (by omega)
  rw [V5.out] at hget
  have HG := Lib.hid hget
  clear hget hz hs
  by_cases t0 : y0 = 197
  rotate_left
  · have b0 : ((y0 : Int) != 197) = true := by rw [bne_iff_ne]; omega
    have hE : E = 4 := by rw [HH.out.1]; rw [if_pos t0]
    have h2 : N2 = 0 := by rw [HH.out.2.1, hE]; rfl
    have h3 : N3 = 0 := by rw [HH.out.2.2.1, hE]; rfl
    have h4 : N4 = 0 := by rw [HH.out.2.2.2.1, hE]; rfl
    have hb : NB = ⟨#[]⟩ := by rw [HH.out.2.2.2.2, hE]; rfl
    have HE := Lib.hid (And.intro hE (And.intro h2 (And.intro h3 (And.intro h4 hb))))
    clear hE h2 h3 h4 hb t0
    go_enter Try.func24, Try.ntmps24
    go_wp2_with fail
    refine (refOpen_any _ _ (by have := HZ.out; omega)).mono ?_
    rintro e w1 ⟨rfl, hb1⟩
    go_wp2_with fail
    refine (HG.out _).mono ?_
    rintro e w2 ⟨rfl, rfl⟩
    go_wp2
    refine bodyPost_ret (results_tmp5 rfl _ _ _) rfl ?_
    exact ⟨by rw [HE.out.1, HE.out.2.1, HE.out.2.2.1, HE.out.2.2.2.1, HE.out.2.2.2.2]; rfl, hb1⟩
  have b0 : ((y0 : Int) != 197) = false := by rw [bne_eq_false_iff_eq]; omega
  by_cases t1 : y1 = 1
  rotate_left
  · have b1 : ((y1 : Int) != 1) = true := by rw [bne_iff_ne]; omega
    have hE : E = 9 := by rw [HH.out.1]; rw [if_neg (by simpa using t0), if_pos t1]
    have h2 : N2 = 0 := by rw [HH.out.2.1, hE]; rfl
    have h3 : N3 = 0 := by rw [HH.out.2.2.1, hE]; rfl
    have h4 : N4 = 0 := by rw [HH.out.2.2.2.1, hE]; rfl
    have hb : NB = ⟨#[]⟩ := by rw [HH.out.2.2.2.2, hE]; rfl
    have HE := Lib.hid (And.intro hE (And.intro h2 (And.intro h3 (And.intro h4 hb))))
    clear hE h2 h3 h4 hb t0 t1
    go_enter Try.func24, Try.ntmps24
    go_wp2_with fail
    refine (refOpen_any _ _ (by have := HZ.out; omega)).mono ?_
    rintro e w1 ⟨rfl, hb1⟩
    go_wp2_with fail
    refine (HG.out _).mono ?_
    rintro e w2 ⟨rfl, rfl⟩
    go_wp2
    refine bodyPost_ret (results_tmp5 rfl _ _ _) rfl ?_
    exact ⟨by rw [HE.out.1, HE.out.2.1, HE.out.2.2.1, HE.out.2.2.2.1, HE.out.2.2.2.2]; rfl, hb1⟩
  have b1 : ((y1 : Int) != 1) = false := by rw [bne_eq_false_iff_eq]; omega
  cases t2 : kindB (y2 : Int)
  · by_cases u2 : y2 < 1
    · have b2 : decide ((y2 : Int) < 1) = true := by simp; omega
      have hE : E = 10 := by rw [HH.out.1]; rw [if_neg (by simpa using t0), if_neg (by simpa using t1), if_pos t2]
      have h2 : N2 = 0 := by rw [HH.out.2.1, hE]; rfl
      have h3 : N3 = 0 := by rw [HH.out.2.2.1, hE]; rfl
      have h4 : N4 = 0 := by rw [HH.out.2.2.2.1, hE]; rfl
      have hb : NB = ⟨#[]⟩ := by rw [HH.out.2.2.2.2, hE]; rfl
      have HE := Lib.hid (And.intro hE (And.intro h2 (And.intro h3 (And.intro h4 hb))))
      clear hE h2 h3 h4 hb t0 t1 u2
      go_enter Try.func24, Try.ntmps24
      go_wp2_with fail
      refine (refOpen_any _ _ (by have := HZ.out; omega)).mono ?_
      rintro e w1 ⟨rfl, hb1⟩
      go_wp2_with fail
      refine (HG.out _).mono ?_
      rintro e w2 ⟨rfl, rfl⟩
      go_wp2
      refine bodyPost_ret (results_tmp5 rfl _ _ _) rfl ?_
      exact ⟨by rw [HE.out.1, HE.out.2.1, HE.out.2.2.1, HE.out.2.2.2.1, HE.out.2.2.2.2]; rfl, hb1⟩
    · have b2 : decide ((y2 : Int) < 1) = false := by simp; omega
      have b3 : decide ((11 : Int) < (y2 : Int)) = true := by simp [kindB] at t2; simp; omega
      have hE : E = 10 := by rw [HH.out.1]; rw [if_neg (by simpa using t0), if_neg (by simpa using t1), if_pos t2]
      have h2 : N2 = 0 := by rw [HH.out.2.1, hE]; rfl
      have h3 : N3 = 0 := by rw [HH.out.2.2.1, hE]; rfl
      have h4 : N4 = 0 := by rw [HH.out.2.2.2.1, hE]; rfl
      have hb : NB = ⟨#[]⟩ := by rw [HH.out.2.2.2.2, hE]; rfl
      have HE := Lib.hid (And.intro hE (And.intro h2 (And.intro h3 (And.intro h4 hb))))
      clear hE h2 h3 h4 hb t0 t1 u2
      go_enter Try.func24, Try.ntmps24
      go_wp2_with fail
      refine (refOpen_any _ _ (by have := HZ.out; omega)).mono ?_
      rintro e w1 ⟨rfl, hb1⟩
      go_wp2_with fail
      refine (HG.out _).mono ?_
      rintro e w2 ⟨rfl, rfl⟩
      go_wp2
      refine bodyPost_ret (results_tmp5 rfl _ _ _) rfl ?_
      exact ⟨by rw [HE.out.1, HE.out.2.1, HE.out.2.2.1, HE.out.2.2.2.1, HE.out.2.2.2.2]; rfl, hb1⟩
  have b2 : decide ((y2 : Int) < 1) = false := by simp [kindB] at t2; simp; omega
  have b3 : decide ((11 : Int) < (y2 : Int)) = false := by simp [kindB] at t2; simp; omega
  cases t3 : procB (y3 : Int)
  · have b4 : decide ((63 : Int) < (y3 : Int)) = true := by simp [procB] at t3; simp; omega
    have hE : E = 1 := by rw [HH.out.1]; rw [if_neg (by simpa using t0), if_neg (by simpa using t1), if_neg (by simp [t2]), if_pos (by simp [t3])]
    have h2 : N2 = 0 := by rw [HH.out.2.1, hE]; rfl
    have h3 : N3 = 0 := by rw [HH.out.2.2.1, hE]; rfl
    have h4 : N4 = 0 := by rw [HH.out.2.2.2.1, hE]; rfl
    have hb : NB = ⟨#[]⟩ := by rw [HH.out.2.2.2.2, hE]; rfl
    have HE := Lib.hid (And.intro hE (And.intro h2 (And.intro h3 (And.intro h4 hb))))
    clear hE h2 h3 h4 hb t0 t1
    go_enter Try.func24, Try.ntmps24
    go_wp2_with fail
    refine (refOpen_any _ _ (by have := HZ.out; omega)).mono ?_
    rintro e w1 ⟨rfl, hb1⟩
    go_wp2_with fail
    refine (HG.out _).mono ?_
    rintro e w2 ⟨rfl, rfl⟩
    go_wp2
    refine bodyPost_ret (results_tmp5 rfl _ _ _) rfl ?_
    exact ⟨by rw [HE.out.1, HE.out.2.1, HE.out.2.2.1, HE.out.2.2.2.1, HE.out.2.2.2.2]; rfl, hb1⟩
  have b4 : decide ((63 : Int) < (y3 : Int)) = false := by simp [procB] at t3; simp; omega
  cases t4 : procB (y4 : Int)
  · have b5 : decide ((63 : Int) < (y4 : Int)) = true := by simp [procB] at t4; simp; omega
    have hE : E = 1 := by rw [HH.out.1]; rw [if_neg (by simpa using t0), if_neg (by simpa using t1), if_neg (by simp [t2]), if_pos (by simp [t4])]
    have h2 : N2 = 0 := by rw [HH.out.2.1, hE]; rfl
    have h3 : N3 = 0 := by rw [HH.out.2.2.1, hE]; rfl
    have h4 : N4 = 0 := by rw [HH.out.2.2.2.1, hE]; rfl
    have hb : NB = ⟨#[]⟩ := by rw [HH.out.2.2.2.2, hE]; rfl
    have HE := Lib.hid (And.intro hE (And.intro h2 (And.intro h3 (And.intro h4 hb))))
    clear hE h2 h3 h4 hb t0 t1
    go_enter Try.func24, Try.ntmps24
    go_wp2_with fail
    refine (refOpen_any _ _ (by have := HZ.out; omega)).mono ?_
    rintro e w1 ⟨rfl, hb1⟩
    go_wp2_with fail
    refine (HG.out _).mono ?_
    rintro e w2 ⟨rfl, rfl⟩
    go_wp2
    refine bodyPost_ret (results_tmp5 rfl _ _ _) rfl ?_
    exact ⟨by rw [HE.out.1, HE.out.2.1, HE.out.2.2.1, HE.out.2.2.2.1, HE.out.2.2.2.2]; rfl, hb1⟩
  have b5 : decide ((63 : Int) < (y4 : Int)) = false := by simp [procB] at t4; simp; omega
  by_cases t5 : 32768 < m
  · have b6 : decide ((32768 : Int) < (m : Int)) = true := by simp; omega
    have hE : E = 3 := by rw [HH.out.1]; rw [if_neg (by simpa using t0), if_neg (by simpa using t1), if_neg (by simp [t2]), if_neg (by simp [t3, t4]), if_pos (.inl (by rw [HBZ.out]; exact t5))]
    have h2 : N2 = 0 := by rw [HH.out.2.1, hE]; rfl
    have h3 : N3 = 0 := by rw [HH.out.2.2.1, hE]; rfl
    have h4 : N4 = 0 := by rw [HH.out.2.2.2.1, hE]; rfl
    have hb : NB = ⟨#[]⟩ := by rw [HH.out.2.2.2.2, hE]; rfl
    have HE := Lib.hid (And.intro hE (And.intro h2 (And.intro h3 (And.intro h4 hb))))
    clear hE h2 h3 h4 hb t0 t1 t5
    go_enter Try.func24, Try.ntmps24
    go_wp2_with fail
    refine (refOpen_any _ _ (by have := HZ.out; omega)).mono ?_
    rintro e w1 ⟨rfl, hb1⟩
    go_wp2_with fail
    refine (HG.out _).mono ?_
    rintro e w2 ⟨rfl, rfl⟩
    go_wp2
    refine bodyPost_ret (results_tmp5 rfl _ _ _) rfl ?_
    exact ⟨by rw [HE.out.1, HE.out.2.1, HE.out.2.2.1, HE.out.2.2.2.1, HE.out.2.2.2.2]; rfl, hb1⟩
  have b6 : decide ((32768 : Int) < (m : Int)) = false := by simp; omega
  by_cases t6 : m = y5
  rotate_left
  · have b7 : ((m : Int) != (y5 : Int)) = true := by rw [bne_iff_ne]; omega
    have hE : E = 3 := by rw [HH.out.1]; rw [if_neg (by simpa using t0), if_neg (by simpa using t1), if_neg (by simp [t2]), if_neg (by simp [t3, t4]), if_pos (.inr (by rw [HBZ.out]; exact t6))]
    have h2 : N2 = 0 := by rw [HH.out.2.1, hE]; rfl
    have h3 : N3 = 0 := by rw [HH.out.2.2.1, hE]; rfl
    have h4 : N4 = 0 := by rw [HH.out.2.2.2.1, hE]; rfl
    have hb : NB = ⟨#[]⟩ := by rw [HH.out.2.2.2.2, hE]; rfl
    have HE := Lib.hid (And.intro hE (And.intro h2 (And.intro h3 (And.intro h4 hb))))
    clear hE h2 h3 h4 hb t0 t1 t5 t6
    go_enter Try.func24, Try.ntmps24
    go_wp2_with fail
    refine (refOpen_any _ _ (by have := HZ.out; omega)).mono ?_
    rintro e w1 ⟨rfl, hb1⟩
    go_wp2_with fail
    refine (HG.out _).mono ?_
    rintro e w2 ⟨rfl, rfl⟩
    go_wp2
    refine bodyPost_ret (results_tmp5 rfl _ _ _) rfl ?_
    exact ⟨by rw [HE.out.1, HE.out.2.1, HE.out.2.2.1, HE.out.2.2.2.1, HE.out.2.2.2.2]; rfl, hb1⟩
  have b7 : ((m : Int) != (y5 : Int)) = false := by rw [bne_eq_false_iff_eq]; omega
  · have hE : E = 0 := by rw [HH.out.1, if_neg (by simpa using t0), if_neg (by simpa using t1), if_neg (by simp [t2]), if_neg (by simp [t3, t4]), if_neg (by rw [HBZ.out]; omega)]
    have h2 : N2 = y2 := by rw [HH.out.2.1, hE]; rfl
    have h3 : N3 = y3 := by rw [HH.out.2.2.1, hE]; rfl
    have h4 : N4 = y4 := by rw [HH.out.2.2.2.1, hE]; rfl
    have hb : NB = t.extract 7 (m + 7) := by rw [HH.out.2.2.2.2, hE, ← HB.out]; rfl
    have HE := Lib.hid (And.intro hE (And.intro h2 (And.intro h3 (And.intro h4 hb))))
    clear hE h2 h3 h4 hb t0 t1 t5 t6
    go_enter Try.func24, Try.ntmps24
    go_wp2_with fail
    refine (refOpen_any _ _ (by have := HZ.out; omega)).mono ?_
    rintro e w1 ⟨rfl, hb1⟩
    go_wp2_with fail
    refine (HG.out _).mono ?_
    rintro e w2 ⟨rfl, rfl⟩
    go_wp2
    go_quiet (fail)
    go_wp2
    refine bodyPost_ret (results_tmp5 rfl _ _ _) rfl ?_
    exact ⟨by rw [HE.out.1, HE.out.2.1, HE.out.2.2.1, HE.out.2.2.2.1, HE.out.2.2.2.2]; rfl, bn hb1 _⟩
end Go.Proofs.Ytgpojbmloielmaa
