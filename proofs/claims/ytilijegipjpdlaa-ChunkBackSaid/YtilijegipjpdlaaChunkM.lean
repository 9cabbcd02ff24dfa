/-
  The law ChunkBack.
  Conditions: none.
-/
import Derived.Test.YtilijegipjpdlaaChunkL
import Derived.Test.YtilijegipjpdlaaChunkJ
namespace Go.Proofs.Ytilijegipjpdlaa
set_option linter.unusedVariables false
open Go.RowKit IM
/-- a slice of small numbers that is read alone -/
def TurnsAt (w : World) (v : Value) (l : List Nat) : Prop := ∃ ad cap, v = .slice ad l.length cap ∧ l.length ≤ 9223372036854775807 ∧
  ∀ i (h : i < l.length), ∃ B O, ad = some ⟨B, O, none⟩ ∧ B < w.heap.size ∧ w.cell? ⟨B, O + i, none⟩ = some (.int .u16 (l[i] : Int)) ∧ l[i] < 65536
/-- the steps' facts at a set of chunks that came -/
theorem back_take (s : ByteArray) (D M n T : Nat) (K : List Nat) (k : Nat) (W : World) (hK : GoodK T K) (hk : k < T) (hT : T ≤ 16) (hA : AsmAt W D M n (tK T K) (asmK s K)) :
    Calls Try.prog 12 #[.pointer (some ⟨D, 0, none⟩), .agg (itemL (partB s k) n (k : Int) (T : Int)).toArray] W fun e w' => e = .returned (.bool (!decide (k ∈ K) && decide (K.length + 1 = T))) ∧ AsmAt w' D M n (tK T (addK K k)) (asmK s (addK K k)) ∧ Kept (TwoB D M) W w' := by
  have hl := (asmK_good s hK hT).len.2
  have h := Take_any D M n _ _ (itemX (partB s k) n (k : Int) (T : Int)) W hA hl
  obtain ⟨h1, h2, h3⟩ := take_item s n T K k hk hT
  refine h.mono ?_
  rintro e w' ⟨he, hA', hk'⟩
  rw [h3] at he
  rw [h1, h2] at hA'
  exact ⟨he, hA', hk'⟩
theorem back_other (s : ByteArray) (D M n T : Nat) (K : List Nat) (x : ItemV) (W : World) (hK : GoodK T K) (hT : T ≤ 16) (hx : ¬ (x.kind = 4 ∧ x.number = n)) (hA : AsmAt W D M n (tK T K) (asmK s K)) :
    Calls Try.prog 12 #[.pointer (some ⟨D, 0, none⟩), .agg (itemA x)] W fun e w' => e = .returned (.bool false) ∧ AsmAt w' D M n (tK T K) (asmK s K) ∧ Kept (TwoB D M) W w' := by
  have hl := (asmK_good s hK hT).len.2
  have h := Take_any D M n _ _ x W hA hl
  have hc := count_other n (tK T K) (asmK s K) x hx
  refine h.mono ?_
  rintro e w' ⟨he, hA', hk'⟩
  unfold takeB at he
  unfold takeT takeL at hA'
  rw [hc] at he hA'
  exact ⟨he, hA', hk'⟩
theorem back_whole (s : ByteArray) (D M n T : Nat) (K : List Nat) (W : World) (hTs : T = totalN s) (hK : GoodK T K) (hT : T ≤ 16) (hA : AsmAt W D M n (tK T K) (asmK s K)) :
    Calls Try.prog 13 #[.pointer (some ⟨D, 0, none⟩)] W fun e w' => e = .returned (.tuple #[.string (if K.length = T then s else ⟨#[]⟩), .bool (decide (K.length = T))]) ∧ Below W.heap.size W w' := by
  have hT1 : 1 ≤ T := by rw [hTs]; unfold totalN; omega
  have h := Whole_any D M n _ _ W hA (asmK_good s hK hT) (asmK_sizes s K)
  rw [full_K s T K hT1] at h
  have hw : wholeC (tK T K) (asmK s K) = if K.length = T then s else ⟨#[]⟩ := by
    by_cases hl : K.length = T
    · rw [if_pos hl, whole_K s T K hTs hK hl]
    · rw [if_neg hl]
      unfold wholeC
      rw [full_K s T K hT1, decide_eq_false hl]
      rfl
  rwa [hw] at h
theorem addK_len (K : List Nat) (k : Nat) : (addK K k).length = if k ∈ K then K.length else K.length + 1 := by
  unfold addK
  split <;> simp
theorem addK_mem (K : List Nat) (k j : Nat) : j ∈ addK K k ↔ j ∈ K ∨ j = k := by
  unfold addK
  split
  · rename_i h
    constructor
    · exact .inl
    · rintro (h' | h')
      · exact h'
      · exact h' ▸ h
  · simp
def S3 (D M Z k : Nat) : Prop := k = D ∨ k = M ∨ k = Z
theorem Kept.two3 {D M Z : Nat} {w w' : World} (h : Kept (TwoB D M) w w') : Kept (S3 D M Z) w w' := h.more (fun q _ h => by
  rcases h with h | h
  · exact .inl h
  · exact .inr (.inl h))
theorem Kept.one3 {D M Z : Nat} {w w' : World} (h : Kept (· = Z) w w') : Kept (S3 D M Z) w w' := h.more (fun q _ h => .inr (.inr h))
def tmK (T : Nat) (K : List Nat) : Int := if K.length = T then 1 else 0
def BackCase (s : ByteArray) (T : Nat) (K : List Nat) (k : Nat) (b1 b2 b3 : Bool) (x : ByteArray) (q : Int) : Prop :=
  decide (k ∈ K) = b1 ∧ (!decide (k ∈ K) && decide (K.length + 1 = T)) = b2 ∧ decide ((addK K k).length = T) = b3 ∧ (if (addK K k).length = T then s else ⟨#[]⟩) = x ∧ (((addK K k).length : Int) == (T : Int)) = b3 ∧ tmK T (addK K k) = tmK T K + q
theorem back_cases (s : ByteArray) (T : Nat) (K : List Nat) (k : Nat) (hK : GoodK T K) (hk : k < T) : BackCase s T K k true false true s 0 ∨ BackCase s T K k true false false ⟨#[]⟩ 0 ∨ BackCase s T K k false true true s 1 ∨ BackCase s T K k false false false ⟨#[]⟩ 0 := by
  have hal := addK_len K k
  by_cases hkK : k ∈ K
  · have he : addK K k = K := by unfold addK; rw [if_pos hkK]
    by_cases hl : K.length = T
    · refine .inl ⟨by simpa using hkK, by simp [hkK], by rw [he]; simpa using hl, by rw [he, if_pos hl], by rw [he]; simp; omega, by rw [he]; simp⟩
    · refine .inr (.inl ⟨by simpa using hkK, by simp [hkK], by rw [he]; simpa using hl, by rw [he, if_neg hl], by rw [he]; simp; omega, by rw [he]; simp⟩)
  · rw [if_neg hkK] at hal
    have hne : K.length ≠ T := fun e => hkK (all_of_len hK e k hk)
    by_cases h1 : K.length + 1 = T
    · refine .inr (.inr (.inl ⟨by simpa using hkK, by simp [hkK, h1], by simp; omega, if_pos (by omega), by simp; omega, ?_⟩))
      unfold tmK
      rw [if_pos (by omega), if_neg hne]
      rfl
    · refine .inr (.inr (.inr ⟨by simpa using hkK, by simp [h1], by simp; omega, if_neg (by omega), by simp; omega, ?_⟩))
      unfold tmK
      rw [if_neg (by omega), if_neg hne]
      rfl
theorem tmK_bd (T : Nat) (K : List Nat) : 0 ≤ tmK T K ∧ tmK T K ≤ 1 := by unfold tmK; split <;> omega
theorem tmK_end (T : Nat) (K : List Nat) (hK : GoodK T K) (h : ∀ k, k < T → k ∈ K) : tmK T K = 1 := by
  have h1 := nodup_le T hK.1 hK.2
  have h2 := len_of_all T hK.1 h
  unfold tmK
  rw [if_pos (by omega)]
set_option maxRecDepth 100000 in
set_option maxHeartbeats 8000000 in
theorem law_chunkBack_in (n : Nat) (s : ByteArray) (v : Value) (l : List Nat) (x : ItemV) (w : World) (hn : n < 18446744073709551616) (hs : s.size ≤ 4096) (hl2 : l.length ≤ 200) (hv : TurnsAt w v l) (hx : ¬ (x.kind = 4 ∧ x.number = n)) (hxd : x.data.size ≤ 5000) :
    Calls Try.prog 4 #[.int .u64 (n : Int), .string s, v, .agg (itemA x)] w fun e w' => e = .returned (.bool true) ∧ Below w.heap.size w w' := by
  have hT1 : 1 ≤ totalN s := by unfold totalN; omega
  have hT2 : totalN s ≤ 16 := by unfold totalN; omega
  have hI1 := fun W : World => (Items_any n s W hn (by omega)).mono fun e w' h => by
    rw [← cut4_b s hs] at h
    exact h.two hT1
  have hBT := fun (D M : Nat) (K : List Nat) (k : Nat) (W : World) (hK : GoodK (totalN s) K) (hk : k < totalN s) => back_take s D M n (totalN s) K k W hK hk hT2
  have hBO := fun (D M : Nat) (K : List Nat) (W : World) (hK : GoodK (totalN s) K) => back_other s D M n (totalN s) K x W hK hT2 hx
  have hBW := fun (D M : Nat) (K : List Nat) (W : World) (hK : GoodK (totalN s) K) => back_whole s D M n (totalN s) K W rfl hK hT2
  generalize totalN s = T at *
  obtain ⟨ad, cap, rfl, hlen, hv⟩ := hv
  have HV := Lib.hid hv
  clear hv
  have k0 : (itemA x).toList[0]? = some (.int .i64 x.kind) := rfl
  have k1 : (itemA x).toList[1]? = some (.string x.data) := rfl
  have k15 : (itemA x).toList[15]? = some (.int .u64 (x.number : Int)) := rfl
  obtain ⟨CS, hCS⟩ : ∃ CS, CS = itemA x := ⟨_, rfl⟩
  have hCl : CS.toList.length = 18 := by rw [hCS]; rfl
  rw [← hCS] at k0 k1 k15 hBO ⊢
  have HI := Lib.hid (And.intro hI1 (And.intro hBT (And.intro hBO hBW)))
  clear hI1 hBT hBO hBW
  have HCS := Lib.hid hCS
  clear hCS
  have ds1 : decide ((4096 : Int) < (s.size : Int)) = false := by simp; omega
  have ds2 : decide (4096 < s.size) = false := by simp; omega
  have dl1 : decide ((200 : Int) < (l.length : Int)) = false := by simp; omega
  have dl2 : decide (200 < l.length) = false := by simp; omega
  have dx1 : decide ((5000 : Int) < (x.data.size : Int)) = false := by simp; omega
  have dx2 : decide (5000 < x.data.size) = false := by simp; omega
  have hbx := Lib.hid (heap_alloc_new w (.cells CS 42))
  have hwz : (w.alloc (.cells CS 42)).heap.size = w.heap.size + 1 := by simp
  have hx3 : (x.kind ≠ 4) ∨ (x.kind = 4 ∧ x.number ≠ n) := by
    by_cases h : x.kind = 4
    · exact .inr ⟨h, fun e => hx ⟨h, e⟩⟩
    · exact .inl h
  clear hx
  have hb0 := ba (br w) (.cells CS 42)
  go_enter Try.func4, Try.ntmps4
  go_wp2_with fail
  refine (awake23_any _).mono ?_
  rintro e w1 ⟨rfl, hb1⟩
  have hbx1 := (hb1.block w.heap.size (by simp)).trans hbx.out
  have c0 : w1.cell? ⟨w.heap.size, 0, none⟩ = some (.int .i64 x.kind) := (cell_of_row _ _ 0 _ _ _ hbx1).trans (by simpa using k0)
  have c1 : w1.cell? ⟨w.heap.size, 1, none⟩ = some (.string x.data) := (cell_of_row _ _ 1 _ _ _ hbx1).trans (by simpa using k1)
  have c15 : w1.cell? ⟨w.heap.size, 15, none⟩ = some (.int .u64 (x.number : Int)) := (cell_of_row _ _ 15 _ _ _ hbx1).trans (by simpa using k15)
  have hsz1 := hb1.size
  rw [hwz] at hsz1
  have hb1 := bt hb0 hb1
  clear k0 k1 k15
  go_upto_region 3 with (fail)
  go_cut [45] (fun s45 wx => s45 = .bool false ∧ w1 = wx)
  case first =>
    rcases hx3 with h3 | ⟨h3, h4⟩
    · have e1 : (x.kind == 4) = false := by simpa using h3
      go_wp2_with fail
      go_meet
      exact ⟨rfl, rfl⟩
    · have e1 : (x.kind == 4) = true := by simpa using h3
      have e2 : ((x.number : Int) == (n : Int)) = false := by simp; omega
      go_wp2_with fail
      go_meet
      exact ⟨rfl, rfl⟩
  case rest =>
    obtain ⟨rfl, rfl⟩ := hcut
    clear c0 c1 c15 dx1 dx2 ds1 ds2 dl1 dl2 hx3
    have HBX := Lib.hid hbx1
    clear hbx1
    go_wp2_with fail
    refine (HI.out.1 _).mono ?_
    rintro e w2 ⟨g, gcap, rfl, hg, hG, hb2⟩
    have hbx2 := Lib.hid ((hb2.block w.heap.size (by omega)).trans HBX.out)
    have hgl := hG.1
    have hb2 := bt hb1 hb2
    go_wp2_with fail
    refine (New_any n _).mono ?_
    rintro e w3 ⟨D, M, rfl, hA, hb3, hD, hM⟩
    have hbx3 := Lib.hid ((hb3.block w.heap.size (by omega)).trans hbx2.out)
    have hG := hG.below hb3
    have hb3 := bt hb2 hb3
    have hmm := @run_makeMap Try.prog
    go_wp2
    have hZ : w3.heap.size ≤ w3.heap.size := Nat.le_refl _
    have hA4 := hA.below (ba (br w3) (.map #[] 0))
    have hG4 := hG.below (ba (br w3) (.map #[] 0))
    have hb4 := ba hb3 (.map #[] 0)
    have hz4 := IMap.made w3 .i64
    have hbx4 := (Below.heap_alloc w3 (.map #[] 0) w.heap.size (Array.getElem?_eq_some_iff.1 hbx3.out).1).trans hbx3.out
    have hAl := hA.lt
    have hZD : w3.heap.size ≠ D := by omega
    have hZM : w3.heap.size ≠ M := by omega
    have hZg : w3.heap.size ≠ g := by have := hG.1; omega
    have hZb : w3.heap.size ≠ w.heap.size := by omega
    have hbD : ¬ TwoB D M w.heap.size := by unfold TwoB; omega
    have hgD : ¬ TwoB D M g := by unfold TwoB; omega
    have hzD : ¬ TwoB D M w3.heap.size := by unfold TwoB; omega
    have hwZ : w.heap.size ≤ w3.heap.size := hb3.size
    have hwD : w.heap.size ≤ D := by omega
    have hwM : w.heap.size ≤ M := by omega
    generalize w3.alloc (.map #[] 0) = w4 at *
    generalize hZ0 : w3.heap.size = Z at *
    have F4 := Lib.hid (And.intro hA4 (And.intro hG4 (And.intro hb4 (And.intro hz4 hbx4))))
    clear hA hG hb3 hA4 hG4 hb4 hz4 hbx4 hb1 hb2 hmm hbx hbx2 hbx3 HBX hAl hD hM hg hZ hZ0 hb0 hgl hwz hsz1
    have hS : ∀ k, k < w.heap.size → ¬ S3 D M Z k := by unfold S3; intro k hk; omega
    have HSS := Lib.hid hS
    have HNE := Lib.hid (And.intro hZD (And.intro hZM (And.intro hZg (And.intro hZb (And.intro hbD (And.intro hgD hzD))))))
    clear hS hZD hZM hZg hZb hbD hgD hzD
    go_loopw [12, 13] (fun tm i wr => ∃ (j : Nat) (K : List Nat), j ≤ l.length + T ∧ i = .int .i64 (j : Int) ∧ GoodK T K ∧ (∀ k, k + l.length < j → k < T → k ∈ K) ∧ tm = .int .i64 (tmK T K) ∧ AsmAt wr D M n (tK T K) (asmK s K) ∧ IMap wr Z .i64 (seenK K) ∧ Kept (S3 D M Z) w4 wr) (fun _ i _ => l.length + T - (intOf i).toNat)
    case atStart => exact ⟨0, [], by omega, rfl, ⟨List.nodup_nil, by simp⟩, by intro k hk; omega, by unfold tmK; rw [if_neg (by simp; omega)], F4.out.1, F4.out.2.2.2.1, .refl _ _⟩
    case round =>
      obtain ⟨j, K, hj, rfl, hK, hall, rfl, hA, hM, hk⟩ := hrel
      have HR := Lib.hid (And.intro hK (And.intro hall (And.intro hA (And.intro hM hk))))
      clear hK hall hA hM hk
      by_cases hlt : j < l.length + T
      · have hd : decide ((j : Int) < (l.length : Int) + (T : Int)) = true := by simp; omega
        have hrange : wr.rangeAt w.heap.size 0 CS.toList := by
          have hb := (HR.out.2.2.2.2).keep F4.out.2.2.2.2 (fun h => by
            rcases h with h | h | h
            · exact HNE.out.2.2.2.2.1 (.inl h)
            · exact HNE.out.2.2.2.2.1 (.inr h)
            · exact HNE.out.2.2.2.1 h.symm)
          intro q u hu
          rw [Nat.zero_add]
          exact (cell_of_row _ _ q _ _ _ hb).trans (by simpa using hu)
        have HRG := Lib.hid hrange
        clear hrange
        obtain ⟨k, hkT, hkj, hsel⟩ : ∃ k : Nat, k < T ∧ (l.length ≤ j → k = j - l.length) ∧ ((∃ (B O uj : Nat), ad = some ⟨B, O, none⟩ ∧ decide ((j : Int) < (l.length : Int)) = true ∧ (j : Int) < (l.length : Int) ∧ wr.cell? ⟨B, O + j, none⟩ = some (.int .u16 (uj : Int)) ∧ uj < 65536 ∧ (uj : Int) % (T : Int) = (k : Int)) ∨ (decide ((j : Int) < (l.length : Int)) = false ∧ (l.length : Int) ≤ (j : Int) ∧ (j : Int) - (l.length : Int) = (k : Int))) := by
          by_cases hjl : j < l.length
          · obtain ⟨B, O, e, hB, hc, hu⟩ := HV.out j hjl
            have hc := ((HR.out.2.2.2.2.out F4.out.2.2.1 F4.out.2.2.1.size HSS.out).cell (p := ⟨B, O + j, none⟩) hB).trans hc
            exact ⟨l[j] % T, Nat.mod_lt _ (by omega), fun h => by omega, .inl ⟨B, O, l[j], e, by simp; omega, by omega, hc, hu, by simp⟩⟩
          · exact ⟨j - l.length, by omega, fun _ => rfl, .inr ⟨by simp; omega, by omega, by omega⟩⟩
        have hK' := HR.out.1.add hkT
        have hin := Lib.hid (HI.out.2.1 D M K k)
        have hcase := back_cases s T K k HR.out.1 hkT
        have HC := Lib.hid hcase
        clear hcase hK' hin
        have hgoal : True := trivial
        rcases hsel with ⟨B, O, uj, rfl, hd2, hjl2, hc, hu, hkE⟩ | ⟨hd2, hjl2, hkE⟩
        all_goals
          go_wp2_with (refine wpList_load_mid rfl 42 (.tmp 7) rfl w.heap.size 0 rfl CS.toList _ HRG.out Try.underlying42 rfl (by rw [hCl]; kernel_rfl) ?_)
          refine (HI.out.2.2.1 D M K _ HR.out.1 HR.out.2.2.1).mono ?_
          rintro e w5 ⟨rfl, hA5, hk5⟩
          clear hkE hd2
          have hM5 : IMap w5 Z .i64 (seenK K) := HR.out.2.2.2.1.keep (hk5.block _ HR.out.2.2.2.1.lt HNE.out.2.2.2.2.2.2)
          have hlk := hM5.lookup Try.underlying47 Try.underlying3 (z := .bool false) (by kernel_rfl) (k : Int)
          rw [seen_get] at hlk
          obtain ⟨w6, hup, hm6, hg6, hz6⟩ := hM5.update Try.underlying47 Try.underlying3 (k : Int) (.bool true)
          rw [seen_put] at hm6
          have hk6 := Kept.of_grown hg6
          have hA6 := Lib.hid (hA5.kept hk6 (fun e => HNE.out.1 e.symm) (fun e => HNE.out.2.1 e.symm))
          have hG6 : ItemsAt w6 g n s T := ((F4.out.2.1.kept HR.out.2.2.2.2 (fun h => by
            rcases h with h | h | h
            · exact HNE.out.2.2.2.2.2.1 (.inl h)
            · exact HNE.out.2.2.2.2.2.1 (.inr h)
            · exact HNE.out.2.2.1 h.symm)).kept hk5 HNE.out.2.2.2.2.2.1).kept hk6 (fun e => HNE.out.2.2.1 e.symm)
          have HRG2 := Lib.hid (hG6.2 k hkT)
          have hk56 : Kept (S3 D M Z) w4 w6 := (HR.out.2.2.2.2.trans hk5.two3).trans hk6.one3
          have HK6 := Lib.hid hk56
          have HM6 := Lib.hid hm6
          clear hM5 hg6 hz6 hk6 hG6 hA5 hk5 hk56 hm6
          have hTk := HI.out.2.1 D M K k _ HR.out.1 hkT hA6.out
          have hWk := fun (W : World) (hW : AsmAt W D M n (tK T (addK K k)) (asmK s (addK K k))) => HI.out.2.2.2 D M (addK K k) W (HR.out.1.add hkT) hW
          have hkT2 : (k : Int) < (T : Int) := by omega
          have htm := tmK_bd T K
          rcases HC.out with ⟨q1, q2, q3, q4, q5, q6⟩ | ⟨q1, q2, q3, q4, q5, q6⟩ | ⟨q1, q2, q3, q4, q5, q6⟩ | ⟨q1, q2, q3, q4, q5, q6⟩
          all_goals
            rw [q1] at hlk
            rw [q2] at hTk
            rw [q3, q4] at hWk
            have HTk := Lib.hid hTk
            have HWk := Lib.hid hWk
            have Q6 := Lib.hid q6
            clear hTk hWk q1 q2 q3 q4 q6
            go_wp2_with (refine wpList_load_mid rfl 42 (.tmp 89) rfl g (k * 18) rfl (itemL (partB s k) n (k : Int) (T : Int)) _ HRG2.out Try.underlying42 rfl (by kernel_rfl) ?_)
            refine HTk.out.mono ?_
            rintro e w7 ⟨rfl, hA7, hk7⟩
            clear hlk hup
            have hm7 : IMap w7 Z .i64 (seenK (addK K k)) := HM6.out.keep (hk7.block _ HM6.out.lt HNE.out.2.2.2.2.2.2)
            have hk7 : Kept (S3 D M Z) w4 w7 := HK6.out.trans hk7.two3
            have HA7 := Lib.hid (And.intro hA7 (And.intro hm7 hk7))
            clear hA7 hm7 hk7
            go_wp2_with fail
            refine (HWk.out _ HA7.out.1).mono ?_
            rintro e w8 ⟨rfl, hb8⟩
            have hm8 := HA7.out.2.1.below (B := w7.heap.size) hb8 HA7.out.2.1.lt
            have hln := hm8.len Try.underlying47 3
            rw [seenK_length] at hln
            have HA8 := Lib.hid (And.intro (HA7.out.1.below hb8) (And.intro hm8 (HA7.out.2.2.trans (Kept.of_below hb8))))
            clear hm8 HA7 hb8
            go_wp2
            refine ⟨⟨j + 1, addK K k, by omega, by go_num, HR.out.1.add hkT, ?_, ?_, HA8.out.1, HA8.out.2.1, HA8.out.2.2⟩, by simp [intOf]; omega⟩
            · intro k' h1 h2
              rw [addK_mem]
              by_cases h3 : k' + l.length < j
              · exact .inl (HR.out.2.1 k' h3 h2)
              · exact .inr (by have := hkj (by omega); omega)
            · rw [Q6.out] <;> simp
      · have hd : decide ((j : Int) < (l.length : Int) + (T : Int)) = false := by simp; omega
        have htm := Lib.hid (tmK_end T K HR.out.1 (fun k hk => HR.out.2.1 k (by omega) hk))
        rw [htm.out]
        go_wp2
        go_ret
        exact ⟨rfl, HR.out.2.2.2.2.out F4.out.2.2.1 F4.out.2.2.1.size HSS.out⟩
set_option maxRecDepth 100000 in
set_option maxHeartbeats 2000000 in
theorem law_chunkBack_out (n : Nat) (s : ByteArray) (v : Value) (l : List Nat) (x : ItemV) (w : World) (hv : TurnsAt w v l)
    (hx : 4096 < s.size ∨ 200 < l.length ∨ (x.kind = 4 ∧ x.number = n) ∨ 5000 < x.data.size) (hs : s.size ≤ 9223372036854775807) (hd : x.data.size ≤ 9223372036854775807) :
    Calls Try.prog 4 #[.int .u64 (n : Int), .string s, v, .agg (itemA x)] w fun e w' => e = .returned (.bool true) ∧ Below w.heap.size w w' := by
  obtain ⟨ad, cap, rfl, hlen, hv⟩ := hv
  clear hv
  have k0 : (itemA x).toList[0]? = some (.int .i64 x.kind) := rfl
  have k1 : (itemA x).toList[1]? = some (.string x.data) := rfl
  have k15 : (itemA x).toList[15]? = some (.int .u64 (x.number : Int)) := rfl
  generalize itemA x = CS at *
  have hbx := Lib.hid (heap_alloc_new w (.cells CS 42))
  have hb0 := ba (br w) (.cells CS 42)
  go_enter Try.func4, Try.ntmps4
  go_wp2_with fail
  refine (awake23_any _).mono ?_
  rintro e w1 ⟨rfl, hb1⟩
  have hbx1 := (hb1.block w.heap.size (by simp)).trans hbx.out
  have c0 : w1.cell? ⟨w.heap.size, 0, none⟩ = some (.int .i64 x.kind) := (cell_of_row _ _ 0 _ _ _ hbx1).trans (by simpa using k0)
  have c1 : w1.cell? ⟨w.heap.size, 1, none⟩ = some (.string x.data) := (cell_of_row _ _ 1 _ _ _ hbx1).trans (by simpa using k1)
  have c15 : w1.cell? ⟨w.heap.size, 15, none⟩ = some (.int .u64 (x.number : Int)) := (cell_of_row _ _ 15 _ _ _ hbx1).trans (by simpa using k15)
  have hb1 := bt hb0 hb1
  clear k0 k1 k15 hbx1
  by_cases h1 : 4096 < s.size
  · have d1 : decide ((4096 : Int) < (s.size : Int)) = true := by simp; omega
    have d2 : decide (4096 < s.size) = true := by simp; omega
    go_wp2
    go_ret
    exact ⟨rfl, hb1⟩
  have d1 : decide ((4096 : Int) < (s.size : Int)) = false := by simp; omega
  have d2 : decide (4096 < s.size) = false := by simp; omega
  by_cases h2 : 200 < l.length
  · have e1 : decide ((200 : Int) < (l.length : Int)) = true := by simp; omega
    have e2 : decide (200 < l.length) = true := by simp; omega
    go_wp2
    go_ret
    exact ⟨rfl, hb1⟩
  have e1 : decide ((200 : Int) < (l.length : Int)) = false := by simp; omega
  have e2 : decide (200 < l.length) = false := by simp; omega
  by_cases h3 : x.kind = 4
  · have f1 : (x.kind == 4) = true := by simpa using h3
    by_cases h4 : x.number = n
    · have f2 : ((x.number : Int) == (n : Int)) = true := by simp; omega
      clear h3 h4 hx
      go_wp2
      go_ret
      exact ⟨rfl, hb1⟩
    · have f2 : ((x.number : Int) == (n : Int)) = false := by simp; omega
      have g0 : 5000 < x.data.size := by
        rcases hx with h | h | h | h
        · omega
        · omega
        · exact absurd h.2 h4
        · exact h
      have g1 : decide ((5000 : Int) < (x.data.size : Int)) = true := by simp; omega
      have g2 : decide (5000 < x.data.size) = true := by simp; omega
      clear h3 h4 hx
      go_wp2
      go_ret
      exact ⟨rfl, hb1⟩
  · have f1 : (x.kind == 4) = false := by simpa using h3
    have g0 : 5000 < x.data.size := by
      rcases hx with h | h | h | h
      · omega
      · omega
      · exact absurd h.1 h3
      · exact h
    have g1 : decide ((5000 : Int) < (x.data.size : Int)) = true := by simp; omega
    have g2 : decide (5000 < x.data.size) = true := by simp; omega
    clear h3 hx
    go_wp2
    go_ret
    exact ⟨rfl, hb1⟩
theorem law_chunkBack (n : Nat) (s : ByteArray) (v : Value) (l : List Nat) (x : ItemV) (w : World) (hn : n < 18446744073709551616) (hv : TurnsAt w v l) (hs : s.size ≤ 9223372036854775807) (hd : x.data.size ≤ 9223372036854775807) :
    Calls Try.prog 4 #[.int .u64 (n : Int), .string s, v, .agg (itemA x)] w fun e w' => e = .returned (.bool true) ∧ Below w.heap.size w w' := by
  by_cases h : s.size ≤ 4096 ∧ l.length ≤ 200 ∧ ¬ (x.kind = 4 ∧ x.number = n) ∧ x.data.size ≤ 5000
  · exact law_chunkBack_in n s v l x w hn h.1 h.2.1 hv h.2.2.1 h.2.2.2
  · refine law_chunkBack_out n s v l x w hv ?_ hs hd
    by_cases h1 : 4096 < s.size
    · exact .inl h1
    by_cases h2 : 200 < l.length
    · exact .inr (.inl h2)
    by_cases h3 : x.kind = 4 ∧ x.number = n
    · exact .inr (.inr (.inl h3))
    by_cases h4 : 5000 < x.data.size
    · exact .inr (.inr (.inr h4))
    · exact absurd ⟨by omega, by omega, h3, by omega⟩ h
section
open Go.ChangeShapes Go.WideShapes Go.Deep
variable {H : Type} {enc : TypeId × Value → H} {w : World} {base : Nat} {spare : Nat → Bool} {held : Bool}
theorem turns_arg {r : Reach} {b0 : Nat} {v : Value} {d : DataW H} {p : List MemPlace} (hv : Value.okWide Try.prog w r b0 44 v) (h : DataW.Trod enc Try.prog w base spare held 44 v d p) : ∃ l, TurnsAt w v l := by
  obtain ⟨fuel, hf⟩ := h
  obtain ⟨a', len', cap', rfl⟩ := okWide_slice Try.underlying44 hv
  have hcs : (Value.slice a' len' cap').cells.toList = [Value.slice a' len' cap'] := by simp [Value.cells]
  have h1 : Try.prog.cellsOf 48 = 1 := by kernel_rfl
  rcases open_slice Try.underlying44 hf with ⟨h0, _⟩ | ⟨a, len, cap, m, n, D, Pl, h0, hb, hl, hm, hmm, _, hx⟩
  · rw [hcs] at h0
    simp at h0
    obtain ⟨_, rfl, _⟩ := h0
    exact ⟨[], _, _, rfl, by simp, fun i h => absurd h (by simp)⟩
  · rw [hcs] at h0
    simp at h0
    obtain ⟨rfl, rfl, rfl⟩ := h0
    have hlm : len' ≤ m := by rw [hmm]; split <;> omega
    have each : ∀ i, i < len' → ∃ x : Nat, w.cell? (a.add i) = some (.int .u16 (x : Int)) ∧ x < 65536 := by
      intro i hi
      obtain ⟨cs', hc1, hc2⟩ := hx i (by omega)
      rw [h1, Nat.mul_one] at hc1
      obtain ⟨_, hlen, hcell⟩ := World.cells?_some hc1
      match cs', hlen with
      | [u], _ =>
        obtain ⟨z, e, _, hz⟩ := DataW.trod_int Try.underlying48 hc2
        simp at e
        subst e
        have hz2 : 0 ≤ z ∧ z ≤ 65535 := by have := hz; simp [Lit.wf, IntKind.min, IntKind.max, IntKind.signed, IntKind.bits] at this; exact this
        have := hcell 0 (by simp)
        simp [Addr.add] at this
        exact ⟨z.toNat, by rw [show ((z.toNat : Nat) : Int) = z from by omega]; simpa [Addr.add] using this, by omega⟩
    obtain ⟨q, hq⟩ := choose_lt each
    refine ⟨(List.range len').map q, _, _, by simp; exact ⟨rfl, rfl⟩, by simp; unfold maxLen at hm; omega, fun i hi => ?_⟩
    have hi' : i < len' := by simpa using hi
    obtain ⟨b, off, spot⟩ := a
    have hz := (hq 0 (by omega)).1
    have hspot : spot = none := by simpa [Addr.add] using World.cell?_spot hz
    subst hspot
    rw [List.getElem_map, List.getElem_range]
    refine ⟨b, off, rfl, by simpa [Addr.add] using block_lt hz, ?_, (hq i hi').2⟩
    have := (hq i hi').1
    rw [← this]
    congr 1
    unfold Addr.add
    split <;> simp_all
theorem row_chunkBack {r : Reach} {b0 b1 base1 : Nat} {spare1 : Nat → Bool} {held1 : Bool} {d d1 : DataW H} {p p1 : List MemPlace} (a : Int) (s : ByteArray) (v2 v3 : Value) (W : World) (ha : 0 ≤ a ∧ a ≤ 18446744073709551615) (hs : s.size ≤ 9223372036854775807)
    (hv : Value.okWide Try.prog W r b0 44 v2) (h : DataW.Trod enc Try.prog W base spare held 44 v2 d p) (hv1 : Value.okWide Try.prog W r b1 42 v3) (h1 : DataW.Trod enc Try.prog W base1 spare1 held1 42 v3 d1 p1) :
    Calls Try.prog 4 #[.int .u64 a, .string s, v2, v3] W fun e w' => e = .returned (.bool true) ∧ Below W.heap.size W w' := by
  obtain ⟨n, rfl⟩ := Int.eq_ofNat_of_zero_le ha.1
  obtain ⟨l, hl⟩ := turns_arg hv h
  obtain ⟨x, rfl, hx1, hx2⟩ := item_arg hv1 h1
  exact law_chunkBack n s v2 l x W (by omega) hl hs hx1
end
end Go.Proofs.Ytilijegipjpdlaa
