/-
  The walk of the law CrcBursts: it returns true.
  Conditions: none but the arguments' kinds.
-/
import Derived.Test.YtchonlodehogpaaCrcC
import Derived.Lib.ConvBytes
namespace Go.Proofs.Ytchonlodehogpaa
open Go.RowKit
/-- a row of bytes that may be written -/
def BytesAt (w : World) (g : Nat) (l : List UInt8) : Prop := ∀ j (h : j < l.length), w.cell? ⟨g, j, none⟩ = some (.int .u8 ((l[j]).toNat : Int)) ∧ w.frozen? ⟨g, j, none⟩ = false
theorem conv_bytes (s : ByteArray) (w : World) : ∃ (W : World) (cap : Nat), (convert 9 30 (.string s)).run Try.prog w = .ok (.slice (some ⟨w.heap.size, 0, none⟩) s.size cap) W ∧ Below w.heap.size w W ∧ W.heap.size = w.heap.size + 1 ∧ BytesAt W w.heap.size s.data.toList := by
  refine ⟨_, _, Lib.run_convert_string_bytes (P := Try.prog) w 9 30 5 s (u := .string) (by kernel_rfl) (by kernel_rfl) (by kernel_rfl), ⟨rfl, rfl, rfl, by rw [Lib.bytesWorld_size]; omega, fun k hk => Lib.bytesWorld_at_old _ _ _ _ hk⟩, Lib.bytesWorld_size _ _ _, fun j hj => ⟨?_, ?_⟩⟩
  · rw [Lib.bytesWorld_cell w 5 s j hj]
    simp at hj
    simp [List.getD_eq_getElem?_getD, hj]
  · have hj' : j < s.data.size := by simpa using hj
    simp only [World.frozen?, Lib.bytesWorld_at_new]
    have e : s.data.size = s.size := rfl
    simp [Lib.bytesCells]
    omega
theorem pow_mod (c : Nat) (h : c < 8) : (2 : Int) ^ c % 256 = ((2 ^ c : Nat) : Int) := by
  obtain h | h | h | h | h | h | h | h : c = 0 ∨ c = 1 ∨ c = 2 ∨ c = 3 ∨ c = 4 ∨ c = 5 ∨ c = 6 ∨ c = 7 := by omega
  all_goals (subst h; rfl)
theorem BytesAt.flip {w : World} {g : Nat} {l : List UInt8} (h : BytesAt w g l) (d : Nat) (y : UInt8) (hd : d < l.length) : BytesAt (w.setCell ⟨g, d, none⟩ (.int .u8 (y.toNat : Int))) g (l.set d y) := by
  intro j hj
  have hj' : j < l.length := by simpa using hj
  refine ⟨?_, ?_⟩
  · by_cases e : d = j
    · subst e
      obtain ⟨v, hv⟩ : ∃ v, w.cell? ⟨g, d, none⟩ = some v := ⟨_, (h d hd).1⟩
      rw [World.cell?_setCell_same' _ _ _ (by rw [hv]; rfl)]
      simp
    · rw [World.cell?_setCell_other _ _ _ _ (fun h => e (by injection h)), (h j hj').1]
      simp [e]
  · rw [World.frozen?_setCell]; exact (h j hj').2
theorem BytesAt.drew {w : World} {g : Nat} {l : List UInt8} (h : BytesAt w g l) : BytesAt w.drew g l := h
theorem flip_eq (l : List UInt8) (k d c : Nat) (hd : d = k / 8) (hc : c = k % 8) (h : d < l.length) (y : UInt8) (hy : y = l[d] ^^^ UInt8.ofNat (2 ^ c)) : CrcM.flip l k = l.set d y := by
  subst hd hc hy
  unfold CrcM.flip
  rw [List.getD_eq_getElem?_getD, List.getElem?_eq_getElem h]
  rfl
theorem conv_back (l : List UInt8) (w : World) (g n cap : Nat) (hn : l.length = n) (h : BytesAt w g l) : (convert 30 9 (.slice (some ⟨g, 0, none⟩) n cap)).run Try.prog w = .ok (.string ⟨l.toArray⟩) w := by
  have hconv := run_convert_bytes_arg (P := Try.prog) w 30 5 (by kernel_rfl) (by kernel_rfl) g 0 n cap (l.map fun b => (b.toNat : Int)) (by rw [List.length_map]; exact hn)
        (by intro i hi
            have hi' : i < l.length := by omega
            rw [Nat.zero_add, (h i hi').1]
            simp [List.getD_eq_getElem?_getD, hi']) 9 (by kernel_rfl)
  rw [hconv]
  unfold strOfNums
  rw [List.map_map]
  have : l.map ((fun n : Int => UInt8.ofNat n.toNat) ∘ fun b : UInt8 => (b.toNat : Int)) = l := by
    rw [List.map_congr_left (g := id), List.map_id]
    intro b _
    simp
  rw [this]
set_option maxHeartbeats 2000000 in
theorem law_bursts (s : ByteArray) (at_ burst : Int) (w : World) (hs : s.size ≤ 9223372036854775807) (ha : -9223372036854775808 ≤ at_ ∧ at_ ≤ 9223372036854775807) (hm : 0 ≤ burst ∧ burst ≤ 4294967295) :
    Calls Try.prog 5 #[.string s, .int .i64 at_, .int .u32 burst] w fun e w' => e = .returned (.bool true) ∧ Below w.heap.size w w' := by
  obtain ⟨ha1, ha2⟩ := ha
  obtain ⟨hm1, hm2⟩ := hm
  by_cases g1 : 5000 < s.size
  · have d1 : decide ((5000 : Int) < (s.size : Int)) = true := by simp; omega
    go_enter Try.func5, Try.ntmps5
    go_wp2_with (go_at_call 17; refine (awake_any _).mono ?_; rintro e w1 ⟨rfl, hb1⟩)
    go_ret
    exact ⟨rfl, hb1⟩
  have d1 : decide ((5000 : Int) < (s.size : Int)) = false := by simp; omega
  clear hs
  have hs : s.size ≤ 5000 := by omega
  clear g1
  have h1 := good_sealB s
  have h3 := sealB_size s
  have h4 : (sealB s).size ≤ 1000000000 := by omega
  by_cases g2 : burst = 0
  · subst g2
    go_enter Try.func5, Try.ntmps5
    go_wp2_with (go_at_call 17; refine (awake_any _).mono ?_; rintro e w1 ⟨rfl, hb1⟩)
    go_ret
    exact ⟨rfl, hb1⟩
  have d2 : (burst == 0) = false := by rw [beq_eq_false_iff_ne]; exact g2
  obtain ⟨bn, rfl⟩ := Int.eq_ofNat_of_zero_le hm1
  obtain ⟨bb, hbb⟩ : ∃ bb : CrcM.W, bb.toNat = bn := ⟨BitVec.ofNat 32 bn, by simp; omega⟩
  subst hbb
  by_cases g3 : at_ < 0
  · have d3 : decide (at_ < 0) = true := by simpa using g3
    go_enter Try.func5, Try.ntmps5
    go_wp2_with fail
    refine (awake_any _).mono ?_
    rintro e w1 ⟨rfl, hb1⟩
    go_wp2_with fail
    refine (Seal_any _ _ (by omega)).mono ?_
    rintro e w2 ⟨rfl, hb2⟩
    obtain ⟨w3, cap, hcv, hb3, hz3, hB⟩ := conv_bytes (sealB s) w2
    clear hB hz3
    go_wp2_with fail
    go_ret
    exact ⟨rfl, bt (bt hb1 hb2) hb3⟩
  have d3 : decide (at_ < 0) = false := by simpa using g3
  obtain ⟨a, rfl⟩ := Int.eq_ofNat_of_zero_le (by omega : 0 ≤ at_)
  by_cases g4 : 8 * (s.size + 4) < a
  · have d4 : decide (8 * ((s.size : Int) + 4) < (a : Int)) = true := by simp; omega
    go_enter Try.func5, Try.ntmps5
    go_wp2_with fail
    refine (awake_any _).mono ?_
    rintro e w1 ⟨rfl, hb1⟩
    go_wp2_with fail
    refine (Seal_any _ _ (by omega)).mono ?_
    rintro e w2 ⟨rfl, hb2⟩
    obtain ⟨w3, cap, hcv, hb3, hz3, hB⟩ := conv_bytes (sealB s) w2
    clear hB hz3
    go_wp2_with fail
    go_ret
    exact ⟨rfl, bt (bt hb1 hb2) hb3⟩
  have d4 : decide (8 * ((s.size : Int) + 4) < (a : Int)) = false := by simp; omega
  go_enter Try.func5, Try.ntmps5
  go_wp2_with fail
  refine (awake_any _).mono ?_
  rintro e w1 ⟨rfl, hb1⟩
  go_wp2_with fail
  refine (Seal_any _ _ (by omega)).mono ?_
  rintro e w2 ⟨rfl, hb2⟩
  obtain ⟨w3, cap, hcv, hb3, hz3, hB⟩ := conv_bytes (sealB s) w2
  have HB := Lib.hid hB
  have HZ := Lib.hid hz3
  clear hB hz3
  go_wp2_with fail
  have HZ2 : w2.heap.size + 1 ≤ w3.heap.size := by rw [HZ.out]; omega
  go_loopw [8, 9] (fun y i wr => ∃ n : Nat, n ≤ 32 ∧ i = .int .i64 n ∧ y = .bool (CrcM.anyf bb a (s.size + 4) n) ∧ Below w2.heap.size w2 wr ∧ w2.heap.size + 1 ≤ wr.heap.size ∧ BytesAt wr w2.heap.size (CrcM.flips bb a n (sealB s).data.toList)) (fun _ i _ => 32 - (intOf i).toNat)
  case atStart => exact ⟨0, by omega, rfl, rfl, hb3, HZ2, HB.out⟩
  case round =>
    clear hcv hb3 HZ HZ2 HB
    obtain ⟨n, hn, rfl, rfl, hb, hz, hB⟩ := hrel
    have HB2 := Lib.hid hB
    clear hB
    by_cases hlt : n < 32
    · have n0 : (0 : Int) ≤ (n : Int) := by omega
      have n1 : (n : Int) < 32 := by omega
      have g4' : a ≤ 8 * (s.size + 4) := by omega
      obtain ⟨q, hq⟩ : ∃ q : Nat, q = bb.toNat / 2 ^ n := ⟨_, rfl⟩
      have hq1 : (bb.toNat : Int) / 2 ^ n = (q : Int) := by rw [hq]; simp
      have hq2 : q < 4294967296 := by rw [hq]; exact Nat.lt_of_le_of_lt (Nat.div_le_self _ _) (wlt bb)
      have hbit : bb.getLsbD n = decide (q % 2 = 1) := by rw [hq, BitVec.getLsbD, Nat.testBit_eq_decide_div_mod_eq]
      have hq3 : bits .and .u32 (q : Int) 1 = ((q % 2 : Nat) : Int) := by
        rw [show (1 : Int) = ((1 : Nat) : Int) from rfl, u32_and_nat _ _ hq2 (by omega), nat_mask1]
      obtain ⟨d, hd⟩ : ∃ d : Nat, d = (a + n) / 8 := ⟨_, rfl⟩
      obtain ⟨c, hc⟩ : ∃ c : Nat, c = (a + n) % 8 := ⟨_, rfl⟩
      have hd1 : ((a : Int) + (n : Int)) / 8 = (d : Int) := by omega
      have hc1 : ((a : Int) + (n : Int)) % 8 = (c : Int) := by omega
      have hc2 : (c : Int) < 8 := by omega
      have HQ := Lib.hid hq
      have HD := Lib.hid hd
      have HC := Lib.hid hc
      clear hq hd hc
      cases hbb : bb.getLsbD n
      · rw [hbit, decide_eq_false_iff_not] at hbb
        have hq4 : bits .and .u32 (q : Int) 1 = 0 := by rw [hq3]; omega
        have HB3 := Lib.hid hbit
        have HB4 := Lib.hid hbb
        clear hq3 hbit hbb
        go_wp2
        go_roundw
        case rel =>
          have e0 : bb.getLsbD n = false := by rw [HB3.out]; exact decide_eq_false HB4.out
          refine ⟨n + 1, by omega, by go_num, ?_, hb, hz, ?_⟩
          · rw [CrcM.anyf, e0]; simp
          · have : CrcM.flips bb a (n + 1) (sealB s).data.toList = CrcM.flips bb a n (sealB s).data.toList := by
              simp only [CrcM.flips, e0]; simp
            rw [this]; exact HB2.out
        case measure => simp [intOf]; omega
      · rw [hbit, decide_eq_true_iff] at hbb
        have hq4 : bits .and .u32 (q : Int) 1 = 1 := by rw [hq3]; omega
        have HB3 := Lib.hid hbit
        have HB4 := Lib.hid hbb
        clear hq3 hbit hbb
        by_cases g5 : a + n < 8 * (s.size + 4)
        · have d5 : decide ((a : Int) + (n : Int) < 8 * ((s.size : Int) + 4)) = true := by simp; omega
          have hlen : (CrcM.flips bb a n (sealB s).data.toList).length = s.size + 4 := by rw [CrcM.flips_length]; exact h3
          have hdl : d < s.size + 4 := by rw [HD.out]; omega
          have hdl2 : d < (CrcM.flips bb a n (sealB s).data.toList).length := by omega
          obtain ⟨hcell, hfree⟩ := HB2.out d hdl2
          have hcn : c < 8 := by omega
          obtain ⟨y, hy⟩ : ∃ y : UInt8, y = (CrcM.flips bb a n (sealB s).data.toList)[d] ^^^ UInt8.ofNat (2 ^ c) := ⟨_, rfl⟩
          obtain ⟨pw, hpw⟩ : ∃ pw : Nat, pw = 2 ^ c := ⟨_, rfl⟩
          have hp256 : pw < 256 := by
            rw [hpw]
            have : 2 ^ c ≤ 2 ^ 7 := Nat.pow_le_pow_right (by omega) (by omega)
            omega
          have hsh : (2 : Int) ^ c % 256 = (pw : Int) := by rw [pow_mod c hcn, hpw]
          have hxy : bits .xor .u8 (((CrcM.flips bb a n (sealB s).data.toList)[d]).toNat : Int) (pw : Int) = (y.toNat : Int) := by
            rw [u8_xor_nat _ _ (UInt8.toNat_lt _) hp256, hy, UInt8.toNat_xor, hpw]
            congr 2
            rw [UInt8.toNat_ofNat', Nat.mod_eq_of_lt (by rw [← hpw]; exact hp256)]
          generalize hx0 : (CrcM.flips bb a n (sealB s).data.toList)[d] = x0 at hcell hxy
          have HX := Lib.hid hx0
          have HY := Lib.hid hy
          have HL := Lib.hid hlen
          clear hx0 hy hlen hpw
          have i0 : (0 : Int) ≤ (d : Int) := by omega
          have i1 : (d : Int) < (s.size : Int) + 4 := by omega
          go_wp2
          go_region
          go_wp2
          go_roundw
          case rel =>
            have e0 : (bb.getLsbD n && decide (a + n < 8 * (s.size + 4))) = true := by
              rw [HB3.out, decide_eq_true HB4.out, decide_eq_true g5]; rfl
            refine ⟨n + 1, by omega, by go_num, ?_, (hb.setCell (p := ⟨w2.heap.size, d, none⟩) (Nat.le_refl _) _).drew, ?_, ?_⟩
            · rw [CrcM.anyf, e0, Bool.or_true]
            · show _ ≤ (wr.setCell _ _).heap.size
              rw [World.size_setCell]; exact hz
            · have hl : (sealB s).data.toList.length = s.size + 4 := h3
              have : CrcM.flips bb a (n + 1) (sealB s).data.toList = (CrcM.flips bb a n (sealB s).data.toList).set d y := by
                simp only [CrcM.flips, hl, e0, if_true]
                exact flip_eq _ _ d c HD.out HC.out hdl2 y HY.out
              rw [this]
              exact BytesAt.drew (HB2.out.flip d y hdl2)
          case measure => simp [intOf]; omega
        · have d5 : decide ((a : Int) + (n : Int) < 8 * ((s.size : Int) + 4)) = false := by simp; omega
          go_wp2
          go_roundw
          case rel =>
            have e0 : (bb.getLsbD n && decide (a + n < 8 * (s.size + 4))) = false := by simp [g5]
            refine ⟨n + 1, by omega, by go_num, ?_, hb, hz, ?_⟩
            · rw [CrcM.anyf, e0]; simp
            · have : CrcM.flips bb a (n + 1) (sealB s).data.toList = CrcM.flips bb a n (sealB s).data.toList := by
                have hl : (sealB s).data.toList.length = s.size + 4 := h3
                simp only [CrcM.flips, hl, e0]; simp
              rw [this]; exact HB2.out
          case measure => simp [intOf]; omega
    · obtain rfl : n = 32 := by omega
      have hl : (sealB s).data.toList.length = s.size + 4 := h3
      have hlen : (CrcM.flips bb a 32 (sealB s).data.toList).length = s.size + 4 := by rw [CrcM.flips_length]; exact h3
      have hcv := conv_back (CrcM.flips bb a 32 (sealB s).data.toList) wr w2.heap.size (s.size + 4) cap hlen HB2.out
      have hgood : goodB ⟨(CrcM.flips bb a 32 (sealB s).data.toList).toArray⟩ = !CrcM.anyf bb a (s.size + 4) 32 := by
        unfold goodB
        cases hy : CrcM.anyf bb a (s.size + 4) 32
        · rw [← hl] at hy
          rw [CrcM.flips_none _ _ _ _ hy]
          exact h1
        · rw [← hl] at hy
          exact CrcM.flips_bad _ _ _ (by rw [hl]; omega) h1 hy
      have hsz : (ByteArray.mk (CrcM.flips bb a 32 (sealB s).data.toList).toArray).size ≤ 1000000000 := by rw [size_mk, hlen]; omega
      generalize CrcM.anyf bb a (s.size + 4) 32 = y at hgood
      generalize (ByteArray.mk (CrcM.flips bb a 32 (sealB s).data.toList).toArray) = z at hgood hsz hcv
      clear hl hlen HB2
      go_wp2_with fail
      refine (Open_any _ _ hsz).mono ?_
      rintro e w4 ⟨rfl, hb4⟩
      cases y
      all_goals
        simp only [Bool.not_true, Bool.not_false] at hgood
        go_wp2
        go_ret
        exact ⟨rfl, bt (bt hb1 hb2) (hb.trans (hb4.mono (by omega)))⟩
end Go.Proofs.Ytchonlodehogpaa
