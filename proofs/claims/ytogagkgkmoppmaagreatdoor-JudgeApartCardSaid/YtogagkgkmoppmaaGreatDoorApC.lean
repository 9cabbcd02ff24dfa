/-
  Rows of names: equal; their processes; the set of all.
  Conditions: those that each theorem names.
-/
import Derived.Test.YtogagkgkmoppmaaGreatDoorApFZs
namespace Go.Proofs.YtogagkgkmoppmaaGreatDoor
set_option linter.unusedVariables false
set_option linter.unusedSimpArgs false
open Go.RowKit GM
theorem nameNeq (w : World) (a0 a1 b0 b1 : Int) : (Go.binOp .neq 97 (.agg #[.int .i64 a0, .int .u32 a1]) (.agg #[.int .i64 b0, .int .u32 b1])).run Tryz.prog w = .ok (.bool (!(a0 == b0 && a1 == b1))) w := by
  by_cases h0 : a0 = b0
  rotate_left
  · have d : (a0 == b0) = false := by simpa using h0
    rw [d]
    (try simp only [Bool.and_false, Bool.false_and])
    go_simp
  subst h0
  have e0 : (a0 == a0) = true := by simp
  by_cases h1 : a1 = b1
  rotate_left
  · have d : (a1 == b1) = false := by simpa using h1
    rw [d]
    (try simp only [Bool.and_false, Bool.false_and])
    go_simp
  subst h1
  have e1 : (a1 == a1) = true := by simp
  rw [e0, e1]
  (try simp only [Bool.and_self])
  go_simp
set_option maxHeartbeats 8000000 in
theorem eqName_any (aa bb : Option Addr) (ac bc : Nat) (xs ys : List NameK) (w : World) (hx : Reads w w.heap.size 2 aa xs.length (namesV xs)) (hy : Reads w w.heap.size 2 bb ys.length (namesV ys)) (hxl : xs.length ≤ 9223372036854775807) (hyl : ys.length ≤ 9223372036854775807) :
    Calls Tryz.prog 59 #[.slice aa xs.length ac, .slice bb ys.length bc] w fun e w' => e = .returned (.bool (decide (xs = ys))) ∧ Below w.heap.size w w' := by
  obtain ⟨R, hR⟩ : ∃ R, R = decide (xs = ys) := ⟨_, rfl⟩
  rw [← hR]
  have HA := Lib.hid (show ∀ W, Below w.heap.size w W → Reads W W.heap.size 2 aa xs.length (namesV xs) from fun W hb => reads_moreE (hx.below hb) hb.size)
  have HB := Lib.hid (show ∀ W, Below w.heap.size w W → Reads W W.heap.size 2 bb ys.length (namesV ys) from fun W hb => reads_moreE (hy.below hb) hb.size)
  have HR := Lib.hid hR
  clear hx hy hR
  by_cases e4 : xs.length = ys.length
  · have d4 : ((xs.length : Int) == (ys.length : Int)) = true := by simp; omega
    have d4' : ((xs.length : Int) != (ys.length : Int)) = false := by simp; omega
    have f4 : xs.length ≤ ys.length := by omega
    have f4' : ys.length ≤ xs.length := by omega
    clear e4
    go_enter Tryz.func59, Tryz.ntmps59
    go_wp2
    go_loopw [13] (fun i wr => ∃ k : Nat, k ≤ xs.length ∧ i = .int .i64 (k : Int) ∧ Hid (xs.take k = ys.take k) ∧ Hid (Below w.heap.size w wr)) (fun i _ => xs.length - (intOf i).toNat)
    case atStart => exact ⟨0, by omega, rfl, rfl, br _⟩
    case round =>
      obtain ⟨k, hk, rfl, HT, HBW⟩ := hrel
      by_cases hlt : k < xs.length
      · have hd : decide ((k : Int) < (xs.length : Int)) = true := by simpa using hlt
        have hlt2 : k < ys.length := by omega
        have hi1 : (k : Int) < (xs.length : Int) := by omega
        have hi2 : (k : Int) < (ys.length : Int) := by omega
        obtain ⟨ga, oa, rfl, hgla, ca0, ca1⟩ := names_cells (HA.out wr HBW.out) hlt
        obtain ⟨gb, ob, rfl, hglb, cb0, cb1⟩ := names_cells (HB.out wr HBW.out) hlt2
        have x0 := Bel.cell ca0 hgla
        have x1 := Bel.cell ca1 hgla
        have y0 := Bel.cell cb0 hglb
        have y1 := Bel.cell cb1 hglb
        have ht := Lib.hid (And.intro (List.take_succ_eq_append_getElem hlt) (List.take_succ_eq_append_getElem hlt2))
        have hne := fun W : World => nameNeq W xs[k].1 (xs[k].2 : Int) ys[k].1 (ys[k].2 : Int)
        have hDD : (xs[k].1 == ys[k].1 && (xs[k].2 : Int) == (ys[k].2 : Int)) = decide (xs[k] = ys[k]) := by
          rw [Bool.eq_iff_iff]
          simp [Prod.ext_iff, Int.natCast_inj]
        rw [hDD] at hne
        have HE0 := Lib.hid (show (xs[k] = ys[k] → xs.take (k + 1) = ys.take (k + 1)) ∧ (¬ xs[k] = ys[k] → R = false) from ⟨fun he => by rw [ht.out.1, ht.out.2, HT.out, he], fun he => by
          rw [HR.out]
          refine decide_eq_false fun h => he ?_
          subst h
          rfl⟩)
        obtain ⟨px, hpx⟩ : ∃ p, p = xs[k] := ⟨_, rfl⟩
        obtain ⟨py, hpy⟩ : ∃ p, p = ys[k] := ⟨_, rfl⟩
        rw [← hpx] at x0 x1 hne HE0
        rw [← hpy] at y0 y1 hne HE0
        clear ca0 ca1 cb0 cb1 hgla hglb hDD ht hpx hpy
        have HLT := Lib.hid hlt
        generalize px.1 = p1 at *
        generalize (px.2 : Int) = p2 at *
        generalize py.1 = q1 at *
        generalize (py.2 : Int) = q2 at *
        by_cases he : px = py
        · rw [decide_eq_true he] at hne
          have HE := Lib.hid (HE0.out.1 he)
          clear he
          go_upto_region 6 with (fail)
          refine wp_region_bel (by kernel_rfl) (by kernel_rfl) ?_
          repeat (go_big_quiet_step ((fail)))
          refine wpQuiet_nil ?_
          intro w3 hw3
          have HB3 := Lib.hid (bt HBW.out (bel_out hw3))
          clear hw3 x0 x1 y0 y1 hne
          go_wp2_with fail
          exact ⟨⟨k + 1, HLT.out, by go_num, HE, HB3⟩, by have := HLT.out; simp [intOf]; omega⟩
        · rw [decide_eq_false he] at hne
          obtain rfl := HE0.out.2 he
          clear he
          go_upto_region 6 with (fail)
          refine wp_region_bel (by kernel_rfl) (by kernel_rfl) ?_
          repeat (go_big_quiet_step ((fail)))
          refine wpQuiet_nil ?_
          intro w3 hw3
          have HB3 := Lib.hid (bt HBW.out (bel_out hw3))
          clear hw3 x0 x1 y0 y1 hne
          go_wp2_with fail
          go_ret
          exact ⟨rfl, HB3.out⟩
      · have hd : decide ((k : Int) < (xs.length : Int)) = false := by simpa using hlt
        have hRt : R = true := by
          have hds := HT.out
          rw [List.take_of_length_le (by omega), List.take_of_length_le (by omega)] at hds
          rw [HR.out]
          simp [hds]
        subst hRt
        go_wp2
        go_ret
        exact ⟨rfl, HBW.out⟩
  · have d4 : ((xs.length : Int) == (ys.length : Int)) = false := by simp; omega
    have d4' : ((xs.length : Int) != (ys.length : Int)) = true := by simp; omega
    have hRf : R = false := by rw [HR.out]; exact decide_eq_false fun h => e4 (by rw [h])
    subst hRf
    go_enter Tryz.func59, Tryz.ntmps59
    go_wp2
    go_ret
    exact ⟨rfl, br _⟩
def allZ (n : Nat) : Int := (List.range n).foldl (fun (z : Int) (p : Nat) => bits .or .u64 z (bitN (p : Int) : Int)) 0
theorem allZ_succ (n : Nat) : allZ (n + 1) = bits .or .u64 (allZ n) (bitN (n : Int) : Int) := by
  unfold allZ
  rw [List.range_succ, List.foldl_append]
  rfl
set_option maxHeartbeats 8000000 in
theorem setAllZ_any (n : Nat) (h0 : 0 < n) (hn : n ≤ 64) (w : World) : Calls Tryz.prog 30 #[.int .i64 (n : Int)] w fun e w' => e = .returned (.int .u64 (allZ n)) ∧ w = w' := by
  have HS := Lib.hid (fun (j : Int) => setBit_any j w)
  have m1 : min (n : Int) 64 = (n : Int) := by omega
  have m2 : max (0 : Int) (n : Int) = (n : Int) := by omega
  have HZ := Lib.hid (show allZ 0 = 0 from rfl)
  go_enter Tryz.func30, Tryz.ntmps30
  go_wp2_with fail
  go_loopw [3, 8] (fun s i wr => ∃ (j : Nat) (z : Int), j ≤ n ∧ Hid (allZ j = z) ∧ s = .int .u64 z ∧ i = .int .i64 (j : Int) ∧ wr = w) (fun _ i _ => n - (intOf i).toNat)
  case atStart => exact ⟨0, 0, by omega, HZ, rfl, rfl, rfl⟩
  case round =>
    obtain ⟨j, z, hj, HJ, rfl, rfl, rfl⟩ := hrel
    by_cases hlt : j < n
    · have hd1 : decide ((j : Int) < (n : Int)) = true := by rw [decide_eq_true_eq]; omega
      have hd2 : decide (j < n) = true := by rw [decide_eq_true_eq]; omega
      have hd3 : (j : Int) < (n : Int) := by omega
      have HLT := Lib.hid hlt
      clear hlt
      go_wp2_with fail
      refine (HS.out _).mono ?_
      rintro e w' ⟨rfl, rfl⟩
      go_wp2_with fail
      exact ⟨⟨j + 1, _, HLT.out, Lib.hid (by rw [allZ_succ, HJ.out]), rfl, by go_num, trivial⟩, by have := HLT.out; simp [intOf]; omega⟩
    · have hd1 : decide ((j : Int) < (n : Int)) = false := by rw [decide_eq_false_iff_not]; omega
      have hd2 : decide (j < n) = false := by rw [decide_eq_false_iff_not]; omega
      have hz : z = allZ n := by rw [← HJ.out, show j = n by omega]
      clear hlt
      go_wp2_with fail
      go_ret
      exact ⟨by rw [hz]; rfl, rfl⟩
def procsL (L : List NameK) : List Int := L.map (·.1)
def ProcsEnd (w : World) (L : List NameK) (e : Ending) (w' : World) : Prop := ∃ ad cap, (e = .returned (.slice ad (procsL L).length cap) ∧ w'.ownsRow w.heap.size 3 1 (.slice ad (procsL L).length cap) (procsL L).length (intsL (procsL L))) ∧ Below w.heap.size w w'
set_option maxRecDepth 100000 in
set_option maxHeartbeats 8000000 in
theorem procs_any (L : List NameK) (ad : Option Addr) (cap : Nat) (w : World) (hl : Reads w w.heap.size 2 ad L.length (namesV L)) (hlen : L.length ≤ 140737488351232 / 8) :
    Calls Tryz.prog 33 #[.slice ad L.length cap] w (ProcsEnd w L) := by
  obtain ⟨i0, hi, hz0, hz1, hz2⟩ := info_parts info3
  obtain ⟨n, hn⟩ : ∃ m, m = L.length := ⟨_, rfl⟩
  have HL := Lib.hid (show ∀ W, Below w.heap.size w W → Reads W W.heap.size 2 ad L.length (namesV L) from fun W hb => reads_moreE (hl.below hb) hb.size)
  have hn9 : n ≤ 17592186043904 := by omega
  have HN := Lib.hid hn
  rw [← hn]
  clear hl hlen hn
  go_enter Tryz.func33, Tryz.ntmps33
  go_wp2_with fail
  go_loopw [3, 8] (fun v i wr => ∃ k : Nat, k ≤ n ∧ i = .int .i64 (k : Int) ∧ wr.ownsRow w.heap.size 3 1 v k (intsL (procsL (L.take k))) ∧ Below w.heap.size w wr) (fun _ i _ => n - (intOf i).toNat)
  case atStart => exact ⟨0, by omega, rfl, ⟨rfl, .inl ⟨rfl, rfl⟩⟩, br _⟩
  case round =>
    obtain ⟨k, hk, rfl, ho, hb⟩ := hrel
    obtain ⟨av, cv, rfl⟩ := ownForm ho
    by_cases hlt : k < n
    · have hd1 : decide ((k : Int) < (n : Int)) = true := by rw [decide_eq_true_eq]; omega
      have hd2 : decide (k < n) = true := by rw [decide_eq_true_eq]; omega
      have hd3 : (k : Int) < (n : Int) := by omega
      have hkl : k < L.length := by rw [← HN.out]; exact hlt
      obtain ⟨g, o, rfl, hgl, c0, c1⟩ := names_cells (HL.out wr hb) hkl
      obtain ⟨p, hp⟩ : ∃ p, p = L[k] := ⟨_, rfl⟩
      rw [← hp] at c0 c1
      have HP := Lib.hid (show procsL (L.take (k + 1)) = procsL (L.take k) ++ [p.1] from by
        unfold procsL
        rw [List.take_succ_eq_append_getElem hkl, List.map_append, hp]
        rfl)
      have HLT := Lib.hid hlt
      have HB := Lib.hid hb
      have HO := Lib.hid ((ho.alloc (.cells #[.int .i64 p.1, .int .u32 (p.2 : Int)] 97)).alloc (.cells #[.int .i64 p.1] 3))
      have HR1 := Lib.hid (reads_oneS (wr.alloc (.cells #[.int .i64 p.1, .int .u32 (p.2 : Int)] 97)) (.int .i64 p.1) 3)
      clear hkl hgl hp hlt ho hb
      go_upto_region 5 with (fail)
      obtain ⟨w2, hw2⟩ : ∃ w2, w2 = wr.alloc (.cells #[.int .i64 p.1, .int .u32 (p.2 : Int)] 97) := ⟨_, rfl⟩
      have HB2 := Lib.hid (show Below w.heap.size w w2 from by rw [hw2]; exact ba HB.out _)
      have x0 : w2.cell? ⟨wr.heap.size, 0, none⟩ = some (.int .i64 p.1) := by rw [hw2]; exact cell_of_row _ _ 0 _ _ _ (heap_alloc_new wr _)
      rw [← hw2] at HO HR1 ⊢
      clear hw2 c0 c1
      go_wp2_with (at_builtin; refine wpList_append_any _ rfl (.tmp 12) (.tmp 15) 74 rfl w.heap.size 3 i0 _ 1 8 Tryz.underlying74 hi hz0 hz1 hz2 rfl (by decide) _ k _ rfl HO.out _ _ 1 _ _ rfl HR1.out (by simp [Value.oneCell']) (by unfold maxLen; omega) (by omega) (by have := HB2.out.size; simp; omega) ?_)
      intro v' wg ho hg hu
      have hbg : Below w.heap.size w wg := grownB (ba HB2.out _) (by have := HB2.out.size; simp; omega) hg (fun b hb => (HO.out.lt b hb).1)
      have HE := Lib.hid (show wg.ownsRow w.heap.size 3 1 v' (k + 1) (intsL (procsL (L.take (k + 1)))) ∧ Below w.heap.size w wg from ⟨by
        rw [HP.out]
        unfold intsL at ho ⊢
        rw [List.map_append]
        exact ho, hbg⟩)
      clear ho hg hu hbg HO HR1 HB HB2
      go_wp2_with fail
      exact ⟨⟨k + 1, HLT.out, by go_num, HE.out.1, HE.out.2⟩, by have := HLT.out; simp [intOf]; omega⟩
    · have hd1 : decide ((k : Int) < (n : Int)) = false := by rw [decide_eq_false_iff_not]; omega
      have hd2 : decide (k < n) = false := by rw [decide_eq_false_iff_not]; omega
      have HE := Lib.hid (show ProcsEnd w L (.returned (.slice av k cv)) wr from ⟨av, cv, by
        have e : L.take k = L := List.take_of_length_le (by rw [← HN.out]; omega)
        rw [e] at ho
        have e2 : (procsL L).length = k := by unfold procsL; rw [List.length_map, ← HN.out]; omega
        rw [e2]
        exact ⟨⟨rfl, ho⟩, hb⟩⟩)
      clear ho hb hlt
      go_wp2_with fail
      go_ret
      exact HE.out
end Go.Proofs.YtogagkgkmoppmaaGreatDoor
