/-
  Plain facts on a frame's bytes: what was printed is parsed as it was; what is parsed is printed to the bytes that it was parsed of.
  Conditions: those that each theorem names.
-/
import Derived.Test.YtgpojbmloielmaaFrameC
import Derived.Test.YtgpojbmloielmaaCrcB
namespace Go.Proofs.Ytgpojbmloielmaa
set_option linter.unusedVariables false
open Go.RowKit
theorem good_sealB (s : ByteArray) : goodB (sealB s) = true := by
  unfold goodB; rw [sealB_list]; exact CrcM.good_seal4 _
theorem extract_sealB (s : ByteArray) : (sealB s).extract 0 s.size = s := by
  unfold sealB
  apply ByteArray.ext
  rw [ByteArray.data_extract, ByteArray.data_append]
  apply Array.ext'
  simp
  rw [show s.size = s.data.toList.length from rfl, List.take_length]
theorem ba_ext (a b : ByteArray) (h : a.data.toList = b.data.toList) : a = b := ByteArray.ext (Array.ext' h)
theorem cut_list (s : ByteArray) : (cutS s).data.toList = s.data.toList.take (s.size - 4) := by
  unfold cutS; rw [ByteArray.data_extract]; simp
theorem extract_list (s : ByteArray) (a b : Nat) : (s.extract a b).data.toList = (s.data.toList.take b).drop a := by
  rw [ByteArray.data_extract]
  simp
  rw [List.drop_take]
theorem val_two (a b : UInt8) : valL [a, b] = a.toNat * 256 + b.toNat := by
  have := a.toNat_lt; have := b.toNat_lt
  simp [valL, valStep]; omega
theorem put_two (v : Nat) : putL v 2 = [UInt8.ofNat (v / 256 % 256), UInt8.ofNat (v % 256)] := by simp [putL]
theorem put_val (a b : UInt8) : putL (a.toNat * 256 + b.toNat) 2 = [a, b] := by
  have ha := a.toNat_lt; have hb := b.toNat_lt
  rw [put_two]
  have e1 : (a.toNat * 256 + b.toNat) / 256 % 256 = a.toNat := by omega
  have e2 : (a.toNat * 256 + b.toNat) % 256 = b.toNat := by omega
  rw [e1, e2]
  simp
theorem seven (l : List UInt8) (h : 7 ≤ l.length) : ∃ (a0 a1 a2 a3 a4 a5 a6 : UInt8) (r : List UInt8), l = a0 :: a1 :: a2 :: a3 :: a4 :: a5 :: a6 :: r := by
  obtain ⟨a0, l, rfl⟩ : ∃ a m, l = a :: m := by cases l with
    | nil => simp at h
    | cons a m => exact ⟨a, m, rfl⟩
  simp only [List.length_cons] at h
  obtain ⟨a1, l, rfl⟩ : ∃ a m, l = a :: m := by cases l with
    | nil => simp at h
    | cons a m => exact ⟨a, m, rfl⟩
  simp only [List.length_cons] at h
  obtain ⟨a2, l, rfl⟩ : ∃ a m, l = a :: m := by cases l with
    | nil => simp at h
    | cons a m => exact ⟨a, m, rfl⟩
  simp only [List.length_cons] at h
  obtain ⟨a3, l, rfl⟩ : ∃ a m, l = a :: m := by cases l with
    | nil => simp at h
    | cons a m => exact ⟨a, m, rfl⟩
  simp only [List.length_cons] at h
  obtain ⟨a4, l, rfl⟩ : ∃ a m, l = a :: m := by cases l with
    | nil => simp at h
    | cons a m => exact ⟨a, m, rfl⟩
  simp only [List.length_cons] at h
  obtain ⟨a5, l, rfl⟩ : ∃ a m, l = a :: m := by cases l with
    | nil => simp at h
    | cons a m => exact ⟨a, m, rfl⟩
  simp only [List.length_cons] at h
  obtain ⟨a6, l, rfl⟩ : ∃ a m, l = a :: m := by cases l with
    | nil => simp at h
    | cons a m => exact ⟨a, m, rfl⟩
  exact ⟨a0, a1, a2, a3, a4, a5, a6, l, rfl⟩
/-- a text whose sum is right, byte by byte -/
theorem good_form (s : ByteArray) (h : 11 ≤ s.size) : ∃ (a0 a1 a2 a3 a4 a5 a6 : UInt8) (r : List UInt8), (cutS s).data.toList = a0 :: a1 :: a2 :: a3 :: a4 :: a5 :: a6 :: r ∧
    byteN s 0 = a0.toNat ∧ byteN s 1 = a1.toNat ∧ byteN s 2 = a2.toNat ∧ byteN s 3 = a3.toNat ∧ byteN s 4 = a4.toNat ∧ lenN s = a5.toNat * 256 + a6.toNat ∧ (bodyS s).data.toList = r := by
  have hl : s.data.toList.length = s.size := rfl
  have hcl : (cutS s).data.toList.length = s.size - 4 := by rw [cut_list, List.length_take, hl]; omega
  obtain ⟨a0, a1, a2, a3, a4, a5, a6, r, hc⟩ := seven _ (by rw [hcl]; omega : 7 ≤ (cutS s).data.toList.length)
  have hg : ∀ i, i < s.size - 4 → s.data.toList.getD i 0 = (a0 :: a1 :: a2 :: a3 :: a4 :: a5 :: a6 :: r).getD i 0 := by
    intro i hi
    rw [← hc, cut_list, List.getD_eq_getElem?_getD, List.getD_eq_getElem?_getD, List.getElem?_take, if_pos hi]
  refine ⟨a0, a1, a2, a3, a4, a5, a6, r, hc, ?_, ?_, ?_, ?_, ?_, ?_, ?_⟩
  · unfold byteN; rw [hg 0 (by omega)]; rfl
  · unfold byteN; rw [hg 1 (by omega)]; rfl
  · unfold byteN; rw [hg 2 (by omega)]; rfl
  · unfold byteN; rw [hg 3 (by omega)]; rfl
  · unfold byteN; rw [hg 4 (by omega)]; rfl
  · unfold lenN valB; rw [extract_list, hc, ← val_two]; rfl
  · unfold bodyS
    rw [extract_list, hc]
    have : (cutS s).size = (a0 :: a1 :: a2 :: a3 :: a4 :: a5 :: a6 :: r).length := by rw [← hc]; rfl
    rw [this, List.take_length]
    rfl
theorem framed_size (k f t : Nat) (b : ByteArray) : (framed k f t b).size = b.size + 11 := by
  unfold framed
  rw [sealB_size, ByteArray.size_append, show (strL (headL k f t b.size)).size = 7 from headL_length k f t b.size]
  omega
theorem cut_seal (s : ByteArray) : cutS (sealB s) = s := by
  unfold cutS; rw [sealB_size, Nat.add_sub_cancel, extract_sealB]
theorem framed_list (k f t : Nat) (b : ByteArray) : (cutS (framed k f t b)).data.toList = [197, 1, UInt8.ofNat k, UInt8.ofNat f, UInt8.ofNat t] ++ putL b.size 2 ++ b.data.toList := by
  unfold framed
  rw [cut_seal, ByteArray.data_append]
  simp [strL, headL]
/-- what was printed is parsed as it was -/
theorem parse_framed (k f t : Nat) (b : ByteArray) (hk : kindB k = true) (hf : procB f = true) (ht : procB t = true) (hb : b.size ≤ 32768) :
    parseE (framed k f t b) = 0 ∧ byteN (framed k f t b) 2 = k ∧ byteN (framed k f t b) 3 = f ∧ byteN (framed k f t b) 4 = t ∧ bodyS (framed k f t b) = b := by
  obtain ⟨a0, a1, a2, a3, a4, a5, a6, r, h, h0, h1, h2, h3, h4, h5, h6⟩ := good_form (framed k f t b) (by rw [framed_size]; omega)
  rw [framed_list, put_two] at h
  simp only [List.cons_append, List.nil_append, List.cons.injEq] at h
  obtain ⟨e0, e1, e2, e3, e4, e5, e6, e7⟩ := h
  have hk2 := hk
  have hf2 := hf
  have ht2 := ht
  simp only [kindB, procB, Bool.and_eq_true, decide_eq_true_iff] at hk2 hf2 ht2
  have k2 : byteN (framed k f t b) 2 = k := by rw [h2, ← e2]; simp; omega
  have k3 : byteN (framed k f t b) 3 = f := by rw [h3, ← e3]; simp; omega
  have k4 : byteN (framed k f t b) 4 = t := by rw [h4, ← e4]; simp; omega
  have k5 : lenN (framed k f t b) = b.size := by rw [h5, ← e5, ← e6]; simp; omega
  have k6 : bodyS (framed k f t b) = b := ba_ext _ _ (by rw [h6, ← e7])
  have g : goodB (framed k f t b) = true := good_sealB _
  refine ⟨?_, k2, k3, k4, k6⟩
  unfold parseE
  rw [if_neg (by rw [framed_size]; omega), if_neg (by rw [g]; exact Bool.noConfusion), if_neg (by rw [h0, ← e0]; decide), if_neg (by rw [h1, ← e1]; decide), k2, k3, k4, k5, k6,
    if_neg (by rw [hk]; exact Bool.noConfusion), if_neg (by rw [hf, ht]; simp), if_neg (by omega)]
/-- what is parsed is printed to the bytes that it was parsed of -/
theorem framed_parse (s : ByteArray) (h : parseE s = 0) : kindB (byteN s 2) = true ∧ procB (byteN s 3) = true ∧ procB (byteN s 4) = true ∧ (bodyS s).size ≤ 32768 ∧ framed (byteN s 2) (byteN s 3) (byteN s 4) (bodyS s) = s := by
  unfold parseE at h
  by_cases q0 : s.size < 11
  · rw [if_pos q0] at h; exact absurd h (by decide)
  rw [if_neg q0] at h
  cases q1 : goodB s
  · rw [if_pos q1] at h; exact absurd h (by decide)
  rw [if_neg (by rw [q1]; exact Bool.noConfusion)] at h
  by_cases q2 : byteN s 0 = 197
  rotate_left
  · rw [if_pos q2] at h; exact absurd h (by decide)
  rw [if_neg (by simpa using q2)] at h
  by_cases q3 : byteN s 1 = 1
  rotate_left
  · rw [if_pos q3] at h; exact absurd h (by decide)
  rw [if_neg (by simpa using q3)] at h
  cases q4 : kindB (byteN s 2)
  · rw [if_pos q4] at h; exact absurd h (by decide)
  rw [if_neg (by rw [q4]; exact Bool.noConfusion)] at h
  cases q5 : procB (byteN s 3)
  · rw [if_pos (.inl q5)] at h; exact absurd h (by decide)
  cases q6 : procB (byteN s 4)
  · rw [if_pos (.inr q6)] at h; exact absurd h (by decide)
  rw [if_neg (by rw [q5, q6]; simp)] at h
  by_cases q7 : 32768 < (bodyS s).size ∨ (bodyS s).size ≠ lenN s
  · rw [if_pos q7] at h; exact absurd h (by decide)
  refine ⟨rfl, rfl, rfl, by omega, ?_⟩
  obtain ⟨a0, a1, a2, a3, a4, a5, a6, r, hc, h0, h1, h2, h3, h4, h5, h6⟩ := good_form s (by omega)
  have hs : sealB (cutS s) = s := by
    obtain ⟨m, hm⟩ : ∃ m, s.size = m + 4 := ⟨s.size - 4, by omega⟩
    have := good_seal s m hm
    rw [q1] at this
    have := beq_iff_eq.1 this.symm
    rw [ByteArray.toList_eq, ByteArray.toList_eq] at this
    unfold cutS
    rw [hm, Nat.add_sub_cancel]
    exact ba_ext _ _ this
  have hlen : (bodyS s).size = a5.toNat * 256 + a6.toNat := by rw [← h5]; omega
  have e0 : a0 = 197 := UInt8.toNat_inj.1 (by rw [← h0, q2]; rfl)
  have e1 : a1 = 1 := UInt8.toNat_inj.1 (by rw [← h1, q3]; rfl)
  have hX : strL (headL (byteN s 2) (byteN s 3) (byteN s 4) (bodyS s).size) ++ bodyS s = cutS s := by
    apply ba_ext
    rw [ByteArray.data_append, hc, hlen, h2, h3, h4]
    simp [strL, headL, put_val, h6, e0, e1]
  unfold framed
  rw [hX]
  exact hs
/-- one byte of a whole text turned: its sum is wrong -/
theorem parse_turned (s : ByteArray) (k : Nat) (h : parseE s = 0) (v : ByteArray) (hv : v.size = s.size) (hg : goodB v = false) : parseE v = 8 := by
  have h11 : ¬ s.size < 11 := fun q => by unfold parseE at h; rw [if_pos q] at h; exact absurd h (by decide)
  unfold parseE
  rw [if_neg (by omega), if_pos hg]
theorem parse_bad (s : ByteArray) (h : parseE s ≠ 0) (i : Nat) : parseN s i = 0 ∧ parseB s = ⟨#[]⟩ := by
  unfold parseN parseB; rw [if_neg h, if_neg h]; exact ⟨rfl, rfl⟩
theorem may_iff (k f t : Int) (b : ByteArray) : printE k f t b = 0 ↔ (kindB k = true ∧ procB f = true ∧ procB t = true ∧ b.size ≤ 32768) := by
  unfold printE
  cases kindB k <;> cases procB f <;> cases procB t <;> simp <;> (by_cases h : 32768 < b.size <;> simp [h] <;> omega)
/-! the statements' function awake -/
def aS : ByteArray := ⟨#[197, 1, 1, 2, 3, 0, 2, 104, 105, 101, 110, 34, 238]⟩
end Go.Proofs.Ytgpojbmloielmaa
