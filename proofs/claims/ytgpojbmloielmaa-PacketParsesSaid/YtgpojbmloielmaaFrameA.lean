/-
  What frame.kind, frame.process, frame.Print and the reference's Print return.
  Conditions: a frame's body has at most 100000 bytes.
-/
import Derived.Test.YtgpojbmloielmaaCrcB
import Derived.Test.YtgpojbmloielmaaNum
namespace Go.Proofs.Ytgpojbmloielmaa
set_option linter.unusedVariables false
open Go.RowKit
def kindB (n : Int) : Bool := decide (1 ≤ n) && decide (n ≤ 11)
def procB (n : Int) : Bool := decide (0 ≤ n) && decide (n ≤ 63)
theorem kind_any (n : Int) (w : World) :
    Calls Try.prog 43 #[.int .i64 n] w fun e w' => e = .returned (.bool (kindB n)) ∧ w = w' := by
  by_cases h1 : 1 ≤ n
  · by_cases h2 : n ≤ 11
    · have d1 : decide (1 ≤ n) = true := by simpa using h1
      have d2 : decide (n ≤ 11) = true := by simpa using h2
      go_enter Try.func43, Try.ntmps43
      go_wp2
      go_ret
      exact ⟨by unfold kindB; rw [d1, d2]; rfl, rfl⟩
    · have d1 : decide (1 ≤ n) = true := by simpa using h1
      have d2 : decide (n ≤ 11) = false := by simpa using h2
      go_enter Try.func43, Try.ntmps43
      go_wp2
      go_ret
      exact ⟨by unfold kindB; rw [d1, d2]; rfl, rfl⟩
  · have d1 : decide (1 ≤ n) = false := by simpa using h1
    go_enter Try.func43, Try.ntmps43
    go_wp2
    go_ret
    exact ⟨by unfold kindB; rw [d1]; rfl, rfl⟩
theorem proc_any (n : Int) (w : World) :
    Calls Try.prog 44 #[.int .i64 n] w fun e w' => e = .returned (.bool (procB n)) ∧ w = w' := by
  by_cases h1 : 0 ≤ n
  · by_cases h2 : n ≤ 63
    · have d1 : decide (0 ≤ n) = true := by simpa using h1
      have d2 : decide (n < 64) = true := by simp; omega
      have d3 : decide (n ≤ 63) = true := by simpa using h2
      go_enter Try.func44, Try.ntmps44
      go_wp2
      go_ret
      exact ⟨by unfold procB; rw [d1, d3]; rfl, rfl⟩
    · have d1 : decide (0 ≤ n) = true := by simpa using h1
      have d2 : decide (n < 64) = false := by simp; omega
      have d3 : decide (n ≤ 63) = false := by simpa using h2
      go_enter Try.func44, Try.ntmps44
      go_wp2
      go_ret
      exact ⟨by unfold procB; rw [d1, d3]; rfl, rfl⟩
  · have d1 : decide (0 ≤ n) = false := by simpa using h1
    go_enter Try.func44, Try.ntmps44
    go_wp2
    go_ret
    exact ⟨by unfold procB; rw [d1]; rfl, rfl⟩
/-- a frame's bytes ahead of its body -/
def headL (k f t len : Nat) : List UInt8 := [197, 1, UInt8.ofNat k, UInt8.ofNat f, UInt8.ofNat t] ++ putL len 2
theorem headL_length (k f t len : Nat) : (headL k f t len).length = 7 := by simp [headL, putL_length]
def framed (k f t : Nat) (b : ByteArray) : ByteArray := sealB (strL (headL k f t b.size) ++ b)
/-- which error: none is 0 -/
def printE (k f t : Int) (b : ByteArray) : Int := if kindB k = false then 10 else if procB f = false ∨ procB t = false then 1 else if 32768 < b.size then 3 else 0
def printS (k f t : Int) (b : ByteArray) : ByteArray := if printE k f t b = 0 then framed k.toNat f.toNat t.toNat b else ⟨#[]⟩
set_option maxHeartbeats 2000000 in
theorem Print_any (k f t : Int) (b : ByteArray) (w : World) (hb : b.size ≤ 100000) :
    Calls Try.prog 31 #[.agg #[.int .i64 k, .int .i64 f, .int .i64 t, .string b]] w fun e w' => e = .returned (.tuple #[.string (printS k f t b), .int .i64 (printE k f t b)]) ∧ Below w.heap.size w w' := by
  cases hk : kindB k
  · have he : printE k f t b = 10 := by simp [printE, hk]
    have hs : printS k f t b = ⟨#[]⟩ := by simp [printS, he]
    rw [he, hs]
    clear he hs
    go_enter Try.func31, Try.ntmps31
    go_wp2_with (go_at_call 43; refine (kind_any _ _).mono ?_; rintro e w' ⟨rfl, rfl⟩)
    go_ret2
    exact ⟨rfl, ba (br _) _⟩
  cases hf : procB f
  · have he : printE k f t b = 1 := by simp [printE, hk, hf]
    have hs : printS k f t b = ⟨#[]⟩ := by simp [printS, he]
    rw [he, hs]
    clear he hs
    go_enter Try.func31, Try.ntmps31
    go_wp2_with (first | (go_at_call 43; refine (kind_any _ _).mono ?_; rintro e w' ⟨rfl, rfl⟩) | (go_at_call 44; refine (proc_any _ _).mono ?_; rintro e w' ⟨rfl, rfl⟩))
    go_ret2
    exact ⟨rfl, ba (br _) _⟩
  cases ht : procB t
  · have he : printE k f t b = 1 := by simp [printE, hk, ht]
    have hs : printS k f t b = ⟨#[]⟩ := by simp [printS, he]
    rw [he, hs]
    clear he hs
    go_enter Try.func31, Try.ntmps31
    go_wp2_with (first | (go_at_call 43; refine (kind_any _ _).mono ?_; rintro e w' ⟨rfl, rfl⟩) | (go_at_call 44; refine (proc_any _ _).mono ?_; rintro e w' ⟨rfl, rfl⟩))
    go_ret2
    exact ⟨rfl, ba (br _) _⟩
  by_cases hl : 32768 < b.size
  · have he : printE k f t b = 3 := by simp [printE, hk, hf, ht, hl]
    have hs : printS k f t b = ⟨#[]⟩ := by simp [printS, he]
    have hd : decide ((32768 : Int) < (b.size : Int)) = true := by simp; omega
    rw [he, hs]
    clear he hs
    go_enter Try.func31, Try.ntmps31
    go_wp2_with (first | (go_at_call 43; refine (kind_any _ _).mono ?_; rintro e w' ⟨rfl, rfl⟩) | (go_at_call 44; refine (proc_any _ _).mono ?_; rintro e w' ⟨rfl, rfl⟩))
    go_ret2
    exact ⟨rfl, ba (br _) _⟩
  have he : printE k f t b = 0 := by simp [printE, hk, hf, ht, hl]
  have hs : printS k f t b = framed k.toNat f.toNat t.toNat b := by simp [printS, he]
  have hd : decide ((32768 : Int) < (b.size : Int)) = false := by simp; omega
  rw [he, hs]
  clear he hs
  have hk2 := hk
  have hf2 := hf
  have ht2 := ht
  simp only [kindB, procB, Bool.and_eq_true, decide_eq_true_iff] at hk2 hf2 ht2
  obtain ⟨kn, rfl⟩ := Int.eq_ofNat_of_zero_le (by omega : 0 ≤ k)
  obtain ⟨fn, rfl⟩ := Int.eq_ofNat_of_zero_le hf2.1
  obtain ⟨tn, rfl⟩ := Int.eq_ofNat_of_zero_le ht2.1
  obtain ⟨hk3, hk4⟩ := hk2
  obtain ⟨hf3, hf4⟩ := hf2
  obtain ⟨ht3, ht4⟩ := ht2
  rw [Int.toNat_natCast, Int.toNat_natCast, Int.toNat_natCast]
  go_enter Try.func31, Try.ntmps31
  go_wp2_with (first | (go_at_call 43; refine (kind_any _ _).mono ?_; rintro e w' ⟨rfl, rfl⟩) | (go_at_call 44; refine (proc_any _ _).mono ?_; rintro e w' ⟨rfl, rfl⟩))
  have hk5 : (UInt8.ofNat kn).toNat = kn := by simp; omega
  have hf5 : (UInt8.ofNat fn).toNat = fn := by simp; omega
  have ht5 : (UInt8.ofNat tn).toNat = tn := by simp; omega
  refine (Put_any _ [197, 1, UInt8.ofNat kn, UInt8.ofNat fn, UInt8.ofNat tn] b.size 2 _ (.inr ⟨w.heap.size + 1, 5, rfl, by simp, by
    intro j hj
    match j, hj with
    | 0, _ => simp [go_sem]
    | 1, _ => simp [go_sem]
    | 2, _ => simp only [List.getElem_cons_succ, List.getElem_cons_zero, hk5]; simp [go_sem]
    | 3, _ => simp only [List.getElem_cons_succ, List.getElem_cons_zero, hf5]; simp [go_sem]
    | 4, _ => simp only [List.getElem_cons_succ, List.getElem_cons_zero, ht5]; simp [go_sem]⟩) (by simp) (by omega) (by omega) (by omega)).mono ?_
  rintro e w1 ⟨v, rfl, g, cap, rfl, hb1, hg1, hg2, hcells⟩
  have hcv := conv_cells _ w1 g _ cap rfl hcells
  have hlen : ([197, 1, UInt8.ofNat kn, UInt8.ofNat fn, UInt8.ofNat tn] ++ putL b.size 2).length = 7 := headL_length kn fn tn b.size
  rw [hlen] at hcv ⊢
  have c3 : w1.cell? ⟨w.heap.size, 3, none⟩ = some (.string b) := by
    rw [hb1.cell (p := ⟨w.heap.size, 3, none⟩) (by simp; omega)]; simp [go_sem]
  have hz : (strL (headL kn fn tn b.size)).size = 7 := headL_length kn fn tn b.size
  have hz2 : (ByteArray.mk ([197, 1, UInt8.ofNat kn, UInt8.ofNat fn, UInt8.ofNat tn] ++ putL b.size 2).toArray).size ≤ 7 := by rw [show (ByteArray.mk ([197, 1, UInt8.ofNat kn, UInt8.ofNat fn, UInt8.ofNat tn] ++ putL b.size 2).toArray).size = 7 from hz]; omega
  have hfin : framed kn fn tn b = sealB (ByteArray.mk ([197, 1, UInt8.ofNat kn, UInt8.ofNat fn, UInt8.ofNat tn] ++ putL b.size 2).toArray ++ b) := rfl
  generalize ByteArray.mk ([197, 1, UInt8.ofNat kn, UInt8.ofNat fn, UInt8.ofNat tn] ++ putL b.size 2).toArray = h at hcv hz2 hfin
  have HF := Lib.hid hfin
  clear hcells hlen hz hfin hk5 hf5 ht5
  go_wp2_with fail
  refine (Seal_any _ _ (by rw [ByteArray.size_append]; omega)).mono ?_
  rintro e w2 ⟨rfl, hb2⟩
  go_wp2
  go_ret2
  exact ⟨by rw [HF.out]; rfl, bt (bt (ba (ba (br _) _) _) hb1) hb2⟩
set_option maxHeartbeats 2000000 in
theorem refPrint_any (k f t : Int) (b : ByteArray) (w : World) (hb : b.size ≤ 100000) :
    Calls Try.prog 9 #[.int .i64 k, .int .i64 f, .int .i64 t, .string b] w fun e w' => e = .returned (.tuple #[.string (printS k f t b), .int .i64 (printE k f t b)]) ∧ Below w.heap.size w w' := by
  cases hk : kindB k
  · have he : printE k f t b = 10 := by simp [printE, hk]
    have hs : printS k f t b = ⟨#[]⟩ := by simp [printS, he]
    rw [he, hs]
    clear he hs
    by_cases h1 : k < 1
    · have d1 : decide (k < 1) = true := by simpa using h1
      go_enter Try.func9, Try.ntmps9
      go_wp2
      go_ret2
      exact ⟨rfl, br _⟩
    · have d1 : decide (k < 1) = false := by simpa using h1
      have d2 : decide (11 < k) = true := by simp [kindB] at hk; simp; omega
      go_enter Try.func9, Try.ntmps9
      go_wp2
      go_ret2
      exact ⟨rfl, br _⟩
  simp only [kindB, Bool.and_eq_true, decide_eq_true_iff] at hk
  have d1 : decide (k < 1) = false := by simp; omega
  have d2 : decide (11 < k) = false := by simp; omega
  cases hf : procB f
  · have he : printE k f t b = 1 := by simp [printE, kindB, hk, hf]
    have hs : printS k f t b = ⟨#[]⟩ := by simp [printS, he]
    rw [he, hs]
    clear he hs
    by_cases h1 : f < 0
    · have d3 : decide (f < 0) = true := by simpa using h1
      go_enter Try.func9, Try.ntmps9
      go_wp2
      go_ret2
      exact ⟨rfl, br _⟩
    · have d3 : decide (f < 0) = false := by simpa using h1
      have d4 : decide (63 < f) = true := by simp [procB] at hf; simp; omega
      go_enter Try.func9, Try.ntmps9
      go_wp2
      go_ret2
      exact ⟨rfl, br _⟩
  simp only [procB, Bool.and_eq_true, decide_eq_true_iff] at hf
  have d3 : decide (f < 0) = false := by simp; omega
  have d4 : decide (63 < f) = false := by simp; omega
  cases ht : procB t
  · have he : printE k f t b = 1 := by simp [printE, kindB, hk, procB, hf]; simp [procB] at ht; intro h1 h2; omega
    have hs : printS k f t b = ⟨#[]⟩ := by simp [printS, he]
    rw [he, hs]
    clear he hs
    by_cases h1 : t < 0
    · have d5 : decide (t < 0) = true := by simpa using h1
      go_enter Try.func9, Try.ntmps9
      go_wp2
      go_ret2
      exact ⟨rfl, br _⟩
    · have d5 : decide (t < 0) = false := by simpa using h1
      have d6 : decide (63 < t) = true := by simp [procB] at ht; simp; omega
      go_enter Try.func9, Try.ntmps9
      go_wp2
      go_ret2
      exact ⟨rfl, br _⟩
  simp only [procB, Bool.and_eq_true, decide_eq_true_iff] at ht
  have d5 : decide (t < 0) = false := by simp; omega
  have d6 : decide (63 < t) = false := by simp; omega
  by_cases hl : 32768 < b.size
  · have he : printE k f t b = 3 := by simp [printE, kindB, hk, procB, hf, ht, hl]
    have hs : printS k f t b = ⟨#[]⟩ := by simp [printS, he]
    have hd : decide ((32768 : Int) < (b.size : Int)) = true := by simp; omega
    rw [he, hs]
    clear he hs
    go_enter Try.func9, Try.ntmps9
    go_wp2
    go_ret2
    exact ⟨rfl, br _⟩
  have he : printE k f t b = 0 := by simp [printE, kindB, hk, procB, hf, ht, hl]
  have hs : printS k f t b = framed k.toNat f.toNat t.toNat b := by simp [printS, he]
  have hd : decide ((32768 : Int) < (b.size : Int)) = false := by simp; omega
  rw [he, hs]
  clear he hs
  obtain ⟨kn, rfl⟩ := Int.eq_ofNat_of_zero_le (by omega : 0 ≤ k)
  obtain ⟨fn, rfl⟩ := Int.eq_ofNat_of_zero_le hf.1
  obtain ⟨tn, rfl⟩ := Int.eq_ofNat_of_zero_le ht.1
  obtain ⟨hk3, hk4⟩ := hk
  obtain ⟨hf3, hf4⟩ := hf
  obtain ⟨ht3, ht4⟩ := ht
  rw [Int.toNat_natCast, Int.toNat_natCast, Int.toNat_natCast]
  have hk5 : (UInt8.ofNat kn).toNat = kn := by simp; omega
  have hf5 : (UInt8.ofNat fn).toNat = fn := by simp; omega
  have ht5 : (UInt8.ofNat tn).toNat = tn := by simp; omega
  have hcv := conv_cells [197, 1, UInt8.ofNat kn, UInt8.ofNat fn, UInt8.ofNat tn] (w.alloc (.cells #[.int .u8 197, .int .u8 1, .int .u8 (kn : Int), .int .u8 (fn : Int), .int .u8 (tn : Int)] 5)) w.heap.size 5 5 rfl (by
    intro j hj
    match j, hj with
    | 0, _ => simp [go_sem]
    | 1, _ => simp [go_sem]
    | 2, _ => simp only [List.getElem_cons_succ, List.getElem_cons_zero, hk5]; simp [go_sem]
    | 3, _ => simp only [List.getElem_cons_succ, List.getElem_cons_zero, hf5]; simp [go_sem]
    | 4, _ => simp only [List.getElem_cons_succ, List.getElem_cons_zero, ht5]; simp [go_sem])
  have hfin : framed kn fn tn b = sealB (ByteArray.mk [197, 1, UInt8.ofNat kn, UInt8.ofNat fn, UInt8.ofNat tn].toArray ++ strL (putL b.size 2) ++ b) := by
    unfold framed headL
    congr 2
  have hz : (ByteArray.mk [197, 1, UInt8.ofNat kn, UInt8.ofNat fn, UInt8.ofNat tn].toArray).size ≤ 5 := Nat.le_refl 5
  generalize ByteArray.mk [197, 1, UInt8.ofNat kn, UInt8.ofNat fn, UInt8.ofNat tn].toArray = h at hcv hfin hz
  have hz2 : (strL (putL b.size 2)).size = 2 := putL_length 2 b.size
  have HF := Lib.hid hfin
  have HZ := Lib.hid hz2
  clear hfin hz2 hk5 hf5 ht5
  go_enter Try.func9, Try.ntmps9
  go_wp2_with fail
  refine (refPut_any h b.size 2 _ (by omega) (by omega) (by omega)).mono ?_
  rintro e w1 ⟨rfl, hb1⟩
  generalize hpp : strL (putL b.size 2) = pp at HF HZ
  have hz3 : pp.size ≤ 2 := by rw [HZ.out]; omega
  clear hpp
  go_wp2_with fail
  refine (refSeal_any _ _ (by rw [ByteArray.size_append, ByteArray.size_append]; omega)).mono ?_
  rintro e w2 ⟨rfl, hb2⟩
  go_wp2
  go_ret2
  exact ⟨by rw [HF.out]; rfl, bt (bt (ba (br _) _) hb1) hb2⟩
end Go.Proofs.Ytgpojbmloielmaa
