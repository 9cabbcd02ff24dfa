/-
  What crc.Sum, crc.Seal, crc.Open and the reference's Sum, Seal, Open return.
  Conditions: each text has at most 1000000000 bytes.
-/
import Derived.Test.YtgpojbmloielmaaCrcA
namespace Go.Proofs.Ytgpojbmloielmaa
open Go.RowKit
def regB (c : CrcM.W) (s : ByteArray) : CrcM.W := CrcM.reg c s.data.toList
def regTo (c : CrcM.W) (s : ByteArray) (k : Nat) : CrcM.W := CrcM.reg c (s.data.toList.take k)
theorem regTo_succ (c : CrcM.W) (s : ByteArray) (k : Nat) (h : k < s.size) : regTo c s (k + 1) = CrcM.step (regTo c s k) s[k] := by
  unfold regTo CrcM.reg
  rw [List.take_succ_eq_append_getElem (by simpa using h), List.foldl_append]
  rfl
theorem regTo_zero (c : CrcM.W) (s : ByteArray) : regTo c s 0 = c := rfl
theorem regTo_all (c : CrcM.W) (s : ByteArray) (k : Nat) (h : k = s.size) : regTo c s k = regB c s := by
  subst h; unfold regTo regB; rw [List.take_of_length_le (by simp)]
def regs (c : CrcM.W) (ss : List ByteArray) (k : Nat) : CrcM.W := (ss.take k).foldl regB c
theorem regs_succ (c : CrcM.W) (ss : List ByteArray) (k : Nat) (h : k < ss.length) : regs c ss (k + 1) = regB (regs c ss k) ss[k] := by
  unfold regs; rw [List.take_succ_eq_append_getElem h, List.foldl_append]; rfl
def ones : CrcM.W := 0xFFFFFFFF#32
theorem ones_nat : ones.toNat = 4294967295 := rfl
theorem xor_ones (c : CrcM.W) : bits .xor .u32 (c.toNat : Int) 4294967295 = ((c ^^^ ones).toNat : Int) := by
  rw [show (4294967295 : Int) = ((4294967295 : Nat) : Int) from rfl, u32_xor_nat _ _ (wlt c) (by omega), BitVec.toNat_xor]; rfl
theorem sub_ones (c : CrcM.W) : (4294967295 : Int) - (c.toNat : Int) = ((c ^^^ ones).toNat : Int) := by
  have h : c ^^^ ones = ~~~c := by
    rw [show ones = BitVec.allOnes 32 from rfl, BitVec.xor_allOnes]
  have := wlt c
  rw [h, BitVec.toNat_not]
  omega
/-- the sum of parts, in order -/
def sumB (ss : List ByteArray) : CrcM.W := regs ones ss ss.length ^^^ ones
set_option maxHeartbeats 1000000 in
theorem Sum_any (b n cap : Nat) (ss : List ByteArray) (w : World) (hn : ss.length = n) (hn2 : n ≤ 1000) (hs : ∀ i (h : i < ss.length), ss[i].size ≤ 1000000000)
    (hc : ∀ i (h : i < ss.length), w.cell? ⟨b, i, none⟩ = some (.string ss[i])) :
    Calls Try.prog 76 #[.slice (some ⟨b, 0, none⟩) n cap] w fun e w' => e = .returned (.int .u32 ((sumB ss).toNat : Int)) ∧ w = w' := by
  have HS := Lib.hid hs
  have HC := Lib.hid hc
  clear hs hc
  go_enter Try.func76, Try.ntmps76
  go_wp2
  go_loop [3, 9] (fun v i => ∃ k : Nat, k ≤ n ∧ i = .int .i64 k ∧ v = .int .u32 ((regs ones ss k).toNat : Int)) (fun _ i => n - (intOf i).toNat)
  case atStart => exact ⟨0, by omega, rfl, rfl⟩
  case round =>
    obtain ⟨k, hk, rfl, rfl⟩ := hrel
    by_cases hlt : k < n
    · have hcell := HC.out k (by omega)
      have hsz := HS.out k (by omega)
      generalize hss : ss[k]'(by omega) = s at hcell hsz
      have H3 := Lib.hid hss
      clear hss
      go_wp2
      go_loop [3, 15] (fun v i => ∃ j : Nat, j ≤ s.size ∧ i = .int .i64 j ∧ v = .int .u32 ((regTo (regs ones ss k) s j).toNat : Int)) (fun _ i => s.size - (intOf i).toNat)
      case atStart => exact ⟨0, by omega, rfl, rfl⟩
      case round =>
        obtain ⟨j, hj, rfl, rfl⟩ := hrel
        by_cases hlt2 : j < s.size
        · go_wp2_with (go_at_call 82; refine (step_any _ _ _).mono ?_; rintro e w' ⟨rfl, rfl⟩)
          go_round
          case rel => exact ⟨j + 1, by omega, by go_num, by rw [regTo_succ _ _ _ hlt2]⟩
          case measure => simp [intOf]; omega
        · go_wp2
          go_round
          case rel => exact ⟨k + 1, by omega, by go_num, by rw [regs_succ _ _ _ (by omega), H3.out, regTo_all _ _ _ (by omega)]⟩
          case measure => simp [intOf]; omega
    · go_wp2
      go_ret
      have : k = ss.length := by omega
      subst this
      exact ⟨ret_int (xor_ones _), rfl⟩
theorem Sum_one (b : Nat) (s : ByteArray) (w : World) (hs : s.size ≤ 1000000000) (hc : w.cell? ⟨b, 0, none⟩ = some (.string s)) :
    Calls Try.prog 76 #[.slice (some ⟨b, 0, none⟩) 1 1] w fun e w' => e = .returned (.int .u32 ((sumB [s]).toNat : Int)) ∧ w = w' :=
  Sum_any b 1 1 [s] w rfl (by omega) (by intro i h; obtain rfl : i = 0 := by (simp at h; exact h)
                                         exact hs) (by intro i h; obtain rfl : i = 0 := by (simp at h; exact h)
                                                       exact hc)
theorem Sum_nil (w : World) : Calls Try.prog 76 #[.slice none 0 0] w fun e w' => e = .returned (.int .u32 ((sumB []).toNat : Int)) ∧ w = w' := by
  go_enter Try.func76, Try.ntmps76
  go_wp2
  go_rounds 1
  go_ret
  exact ⟨ret_int (xor_ones ones), rfl⟩
set_option maxHeartbeats 1000000 in
theorem refSum_any (s : ByteArray) (w : World) (hs : s.size ≤ 1000000000) :
    Calls Try.prog 37 #[.string s] w fun e w' => e = .returned (.int .u32 ((sumB [s]).toNat : Int)) ∧ w = w' := by
  go_enter Try.func37, Try.ntmps37
  go_wp2
  go_loop [3, 4, 5] (fun v i _ => ∃ k : Nat, k ≤ s.size ∧ i = .int .i64 k ∧ v = .int .u32 ((regTo ones s k).toNat : Int)) (fun _ i _ => s.size - (intOf i).toNat)
  case atStart => exact ⟨0, by omega, rfl, rfl⟩
  case round =>
    obtain ⟨k, hk, rfl, rfl⟩ := hrel
    by_cases hlt : k < s.size
    · have hb := (s[k]).toNat_lt
      have hx := xor_byte (regTo ones s k) s[k]
      go_wp2
      go_loop [3, 5] (fun v i => ∃ j : Nat, j ≤ 8 ∧ i = .int .i64 j ∧ v = .int .u32 ((CrcM.halfN j (regTo ones s k ^^^ s[k].toBitVec.setWidth 32)).toNat : Int)) (fun _ i => 8 - (intOf i).toNat)
      case atStart => exact ⟨0, by omega, rfl, rfl⟩
      case round =>
        obtain ⟨j, hj, rfl, rfl⟩ := hrel
        by_cases hlt2 : j < 8
        · go_wp2_with (go_at_call 74; refine (half_any _ _).mono ?_; rintro e w' ⟨rfl, rfl⟩)
          go_round
          case rel => exact ⟨j + 1, by omega, by go_num, by rw [halfN_snoc]⟩
          case measure => simp [intOf]; omega
        · go_wp2
          go_round
          case rel => exact ⟨k + 1, by omega, by go_num, by rw [regTo_succ _ _ _ hlt]; have : j = 8 := by omega
                                                            subst this; rfl⟩
          case measure => simp [intOf]; omega
    · go_wp2
      go_ret
      have : k = s.size := by omega
      subst this
      refine ⟨ret_int ?_, rfl⟩
      rw [regTo_all _ _ _ rfl]
      exact sub_ones _

theorem size_mk (l : List UInt8) : (ByteArray.mk l.toArray).size = l.length := rfl
/-- a text sealed -/
def sealB (s : ByteArray) : ByteArray := s ++ ⟨(CrcM.le4 (sumB [s])).toArray⟩
theorem sumB_one (s : ByteArray) : sumB [s] = CrcM.sum s.data.toList := rfl
theorem sealB_list (s : ByteArray) : (sealB s).data.toList = CrcM.seal4 s.data.toList := by
  unfold sealB CrcM.seal4
  rw [ByteArray.data_append]
  simp [sumB_one]
theorem sealB_size (s : ByteArray) : (sealB s).size = s.size + 4 := by
  unfold sealB; rw [ByteArray.size_append]; rfl
set_option maxHeartbeats 1000000 in
theorem Seal_any (s : ByteArray) (w : World) (hs : s.size ≤ 1000000000) :
    Calls Try.prog 60 #[.string s] w fun e w' => e = .returned (.string (sealB s)) ∧ Below w.heap.size w w' := by
  have h4 := CrcM.le4_length (sumB [s])
  have H4 : (ByteArray.mk (CrcM.le4 (sumB [s])).toArray).size ≤ 4 := by rw [size_mk, h4]; omega
  clear h4
  go_enter Try.func60, Try.ntmps60
  go_wp2_with fail
  refine (Sum_any w.heap.size 1 1 [s] _ rfl (by omega) (by intro i h; obtain rfl : i = 0 := by (simp at h; exact h)
                                                           exact hs) (by intro i h; obtain rfl : i = 0 := by (simp at h; exact h)
                                                                         simp [go_sem])).mono ?_
  rintro e w' ⟨rfl, rfl⟩
  go_wp2_with fail
  refine (bytes_any _ _).mono ?_
  rintro e w1 ⟨rfl, hb1⟩
  go_wp2
  go_ret
  exact ⟨rfl, ((Below.refl _ _).alloc (Nat.le_refl _) _).trans (hb1.mono (by simp))⟩
theorem conv4 (c : CrcM.W) (w : World) : (convert 52 9 (.slice (some ⟨w.heap.size, 0, none⟩) 4 4)).run Try.prog (w.alloc (.cells #[.int .u8 ((CrcM.byteAt c 0).toNat : Int), .int .u8 ((CrcM.byteAt c 1).toNat : Int), .int .u8 ((CrcM.byteAt c 2).toNat : Int), .int .u8 ((CrcM.byteAt c 3).toNat : Int)] 5)) = .ok (.string ⟨(CrcM.le4 c).toArray⟩) (w.alloc (.cells #[.int .u8 ((CrcM.byteAt c 0).toNat : Int), .int .u8 ((CrcM.byteAt c 1).toNat : Int), .int .u8 ((CrcM.byteAt c 2).toNat : Int), .int .u8 ((CrcM.byteAt c 3).toNat : Int)] 5)) := by
  have hconv := run_convert_bytes_arg (P := Try.prog) (w.alloc (.cells #[.int .u8 ((CrcM.byteAt c 0).toNat : Int), .int .u8 ((CrcM.byteAt c 1).toNat : Int), .int .u8 ((CrcM.byteAt c 2).toNat : Int), .int .u8 ((CrcM.byteAt c 3).toNat : Int)] 5)) 52 5 (by kernel_rfl) (by kernel_rfl) w.heap.size 0 4 4
        [((CrcM.byteAt c 0).toNat : Int), ((CrcM.byteAt c 1).toNat : Int), ((CrcM.byteAt c 2).toNat : Int), ((CrcM.byteAt c 3).toNat : Int)] rfl
        (by intro i hi
            obtain h0 | h0 | h0 | h0 : i = 0 ∨ i = 1 ∨ i = 2 ∨ i = 3 := by omega
            all_goals (subst h0; simp [go_sem])) 9 (by kernel_rfl)
  rw [hconv]
  simp [strOfNums, CrcM.le4]
set_option maxHeartbeats 1000000 in
theorem refSeal_any (s : ByteArray) (w : World) (hs : s.size ≤ 1000000000) :
    Calls Try.prog 18 #[.string s] w fun e w' => e = .returned (.string (sealB s)) ∧ Below w.heap.size w w' := by
  have h4 := CrcM.le4_length (sumB [s])
  have H4 : (ByteArray.mk (CrcM.le4 (sumB [s])).toArray).size ≤ 4 := by rw [size_mk, h4]; omega
  clear h4
  have b0 := byte0 (sumB [s])
  have b1 := byte1 (sumB [s])
  have b2 := byte2 (sumB [s])
  have b3 := byte3 (sumB [s])
  have hv := conv4 (sumB [s]) w
  have hl := wlt (sumB [s])
  go_enter Try.func18, Try.ntmps18
  go_wp2_with (go_at_call 37; refine (refSum_any _ _ hs).mono ?_; rintro e w' ⟨rfl, rfl⟩)
  go_ret
  exact ⟨rfl, ((Below.refl _ _).alloc (Nat.le_refl _) _)⟩
def goodB (s : ByteArray) : Bool := CrcM.good s.data.toList
def openS (s : ByteArray) : ByteArray := if goodB s = true then s.extract 0 (s.size - 4) else ⟨#[]⟩
theorem good_split (s : ByteArray) (m : Nat) (h : s.size = m + 4) : goodB s = (CrcM.le4 (sumB [s.extract 0 m]) == (s.extract m (m + 4)).toList) := by
  have hl : s.data.toList.length = m + 4 := h
  unfold goodB CrcM.good CrcM.cut4
  rw [hl, sumB_one, ByteArray.toList_eq, ByteArray.data_extract, ByteArray.data_extract]
  have e : (s.data.toList.drop m).take (m + 4 - m) = s.data.toList.drop m := List.take_of_length_le (by rw [List.length_drop, hl]; omega)
  simp at e ⊢
  rw [e]
theorem good_short (s : ByteArray) (h : s.size < 4) : goodB s = false := by
  unfold goodB CrcM.good
  have : s.data.toList.length < 4 := h
  rw [decide_eq_false (by omega)]
  rfl
theorem cell_new_drew (w : World) (v : Value) (t : TypeId) : (w.alloc (.cells #[v] t)).drew.cell? ⟨w.heap.size, 0, none⟩ = some v := by simp [go_sem]
set_option maxHeartbeats 1000000 in
theorem Open_any (s : ByteArray) (w : World) (hs : s.size ≤ 1000000000) :
    Calls Try.prog 39 #[.string s] w fun e w' => e = .returned (.tuple #[.string (openS s), .bool (goodB s)]) ∧ Below w.heap.size w w' := by
  by_cases h4 : s.size < 4
  · have hg : goodB s = false := good_short s h4
    have ho : openS s = ⟨#[]⟩ := by unfold openS; rw [hg]; rfl
    rw [hg, ho]
    have hd : decide ((s.size : Int) - 4 < 0) = true := by simp; omega
    go_enter Try.func39, Try.ntmps39
    go_wp2
    go_quiet (fail)
    go_wp2
    go_ret2
    exact ⟨rfl, below_drewN (Below.refl _ _) _⟩
  · obtain ⟨m, hm⟩ : ∃ m, s.size = m + 4 := ⟨s.size - 4, by omega⟩
    have hg := good_split s m hm
    clear h4
    have ho : openS s = if goodB s = true then s.extract 0 m else ⟨#[]⟩ := by unfold openS; rw [hm]; rfl
    have HG := Lib.hid hg
    have HO := Lib.hid ho
    clear hg ho
    have hx : (s.extract 0 m).size ≤ 1000000000 := by rw [ByteArray.size_extract]; omega
    have hm0 : (0 : Int) ≤ (m : Int) := by omega
    have hm1 : (m : Int) ≤ (m : Int) + 4 := by omega
    have hd : decide ((m : Int) < 0) = false := by simp
    cases hgg : goodB s
    · have h1 : (CrcM.le4 (sumB [s.extract 0 m]) == (s.extract m (m + 4)).toList) = false := HG.out ▸ hgg
      rw [hgg] at HO
      have HH := Lib.hid hgg
      clear hgg
      go_enter Try.func39, Try.ntmps39
      go_wp2
      go_region_held3 (fun _ => True) (trivial) (first | (go_at_call 76; refine (Sum_one _ (s.extract 0 m) _ hx (cell_new_drew _ _ _)).mono ?_; rintro e w' ⟨rfl, rfl⟩) | (go_at_call 75; refine (bytes_any _ _).mono ?_; rintro e w1 ⟨rfl, hb1⟩))
      go_wp2
      go_ret2
      exact ⟨by rw [HO.out]; rfl, ((Below.refl _ _).alloc (Nat.le_refl _) _).drew.trans (hb1.mono (by simp))⟩
    · have h1 : (CrcM.le4 (sumB [s.extract 0 m]) == (s.extract m (m + 4)).toList) = true := HG.out ▸ hgg
      rw [hgg] at HO
      have HH := Lib.hid hgg
      clear hgg
      go_enter Try.func39, Try.ntmps39
      go_wp2
      go_region_held3 (fun _ => True) (trivial) (first | (go_at_call 76; refine (Sum_one _ (s.extract 0 m) _ hx (cell_new_drew _ _ _)).mono ?_; rintro e w' ⟨rfl, rfl⟩) | (go_at_call 75; refine (bytes_any _ _).mono ?_; rintro e w1 ⟨rfl, hb1⟩))
      go_wp2
      go_ret2
      exact ⟨by rw [HO.out]; rfl, ((Below.refl _ _).alloc (Nat.le_refl _) _).drew.trans (hb1.mono (by simp))⟩
theorem good_seal (s : ByteArray) (m : Nat) (h : s.size = m + 4) : goodB s = ((sealB (s.extract 0 m)).toList == s.toList) := by
  have hl : s.data.toList.length = m + 4 := h
  have hc : CrcM.cut4 s.data.toList = s.data.toList.take m := by simp [CrcM.cut4, hl]
  rw [ByteArray.toList_eq, ByteArray.toList_eq, sealB_list, ByteArray.data_extract]
  unfold goodB
  rw [Bool.eq_iff_iff, beq_iff_eq]
  have e : (s.data.extract 0 m).toList = s.data.toList.take m := by simp
  rw [e]
  constructor
  · intro hg
    rw [← hc]
    exact CrcM.seal4_cut4 _ hg
  · intro he
    rw [← he]
    exact CrcM.good_seal4 _
set_option maxHeartbeats 1000000 in
theorem refOpen_any (s : ByteArray) (w : World) (hs : s.size ≤ 1000000000) :
    Calls Try.prog 51 #[.string s] w fun e w' => e = .returned (.tuple #[.string (openS s), .bool (goodB s)]) ∧ Below w.heap.size w w' := by
  by_cases h4 : s.size < 4
  · have hg : goodB s = false := good_short s h4
    have ho : openS s = ⟨#[]⟩ := by unfold openS; rw [hg]; rfl
    rw [hg, ho]
    have hd : decide ((s.size : Int) < 4) = true := by simp; omega
    go_enter Try.func51, Try.ntmps51
    go_wp2
    go_ret2
    exact ⟨rfl, Below.refl _ _⟩
  · obtain ⟨m, hm⟩ : ∃ m, s.size = m + 4 := ⟨s.size - 4, by omega⟩
    have hg := good_seal s m hm
    clear h4
    have ho : openS s = if goodB s = true then s.extract 0 m else ⟨#[]⟩ := by unfold openS; rw [hm]; rfl
    have HG := Lib.hid hg
    have HO := Lib.hid ho
    clear hg ho
    have hx : (s.extract 0 m).size ≤ 1000000000 := by rw [ByteArray.size_extract]; omega
    have hm0 : (0 : Int) ≤ (m : Int) := by omega
    have hm1 : (m : Int) ≤ (m : Int) + 4 := by omega
    have hd : decide ((m : Int) + 4 < 4) = false := by simp; omega
    cases hgg : goodB s
    · have h1 : ((sealB (s.extract 0 m)).toList == s.toList) = false := HG.out ▸ hgg
      rw [hgg] at HO
      have HH := Lib.hid hgg
      clear hgg
      go_enter Try.func51, Try.ntmps51
      go_wp2_with (go_at_call 18; refine (refSeal_any _ _ hx).mono ?_; rintro e w1 ⟨rfl, hb1⟩)
      go_ret2
      exact ⟨by rw [HO.out]; rfl, hb1⟩
    · have h1 : ((sealB (s.extract 0 m)).toList == s.toList) = true := HG.out ▸ hgg
      rw [hgg] at HO
      have HH := Lib.hid hgg
      clear hgg
      go_enter Try.func51, Try.ntmps51
      go_wp2_with (go_at_call 18; refine (refSeal_any _ _ hx).mono ?_; rintro e w1 ⟨rfl, hb1⟩)
      go_ret2
      exact ⟨by rw [HO.out]; rfl, hb1⟩
end Go.Proofs.Ytgpojbmloielmaa