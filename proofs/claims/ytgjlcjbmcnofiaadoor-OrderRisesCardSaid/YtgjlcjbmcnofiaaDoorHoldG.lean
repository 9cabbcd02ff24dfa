/-
  What hold's Above returns.
  Conditions: none.
-/
import Derived.Test.YtgjlcjbmcnofiaaDoorHoldF
namespace Go.Proofs.YtgjlcjbmcnofiaaDoor
set_option linter.unusedVariables false
set_option linter.unusedSimpArgs false
open Go.RowKit
theorem run_index_cell {P : Program} (w : World) (t e f : TypeId) (n : Nat) (cs : Array Value) (k : IntKind) (i : Nat) (v : Value) (j : TypeInfo) (ht : P.underlying t = some (.array n e)) (he : P.underlying e = some (.slice f)) (hj : P.info? e = some j) (hs : j.size = 1) (hi : i < n) (hv : cs[i]? = some v) :
    (Instr.index t (.agg cs) (.int k (i : Int))).run P w = .ok v w := by
  have h1 : 0 ≤ (i : Int) ∧ (i : Int) < (n : Int) := by omega
  simp [Instr.index, run_underlying ht, asIntOf, sizeOf, typeInfo, hj, hs, part, isAgg, run_underlying he, h1, hv, hi]
/-- does a key come ahead of a message's? -/
def keyAh (a b : Int) (m : Msg) : Bool := decide (0 < keyZ m.stamp m.frm a b)
/-- the messages of the first processes that are behind a key -/
def aboveN (R : Nat → List Msg) (a b : Int) (t : Nat) : List Msg := ((List.range t).flatMap R).filter (keyAh a b)
theorem aboveN_succ (R : Nat → List Msg) (a b : Int) (t : Nat) : aboveN R a b (t + 1) = aboveN R a b t ++ (R t).filter (keyAh a b) := by
  unfold aboveN
  rw [List.range_succ, List.flatMap_append, List.filter_append]
  simp
theorem aboveN_mem {R : Nat → List Msg} {a b : Int} {t : Nat} {m : Msg} (h : m ∈ aboveN R a b t) : ∃ p, p < t ∧ m ∈ R p ∧ keyAh a b m = true := by
  obtain ⟨h1, h2⟩ := List.mem_filter.1 h
  obtain ⟨p, hp, hm⟩ := List.mem_flatMap.1 h1
  exact ⟨p, by simpa using hp, hm, h2⟩
def allN (R : Nat → List Msg) (t : Nat) : List Msg := (List.range t).flatMap R
theorem allN_succ (R : Nat → List Msg) (t : Nat) : allN R (t + 1) = allN R t ++ R t := by
  unfold allN
  rw [List.range_succ, List.flatMap_append]
  simp
theorem allN_le (R : Nat → List Msg) {t : Nat} : ∀ {s : Nat}, t ≤ s → (allN R t).length ≤ (allN R s).length := by
  intro s h
  induction h with
  | refl => omega
  | step _ ih => rw [allN_succ, List.length_append]; omega
theorem HoldAt.vlist {w : World} {D : Nat} {lo : Nat → Nat} {R : Nat → List Msg} {V : Nat → Value} (h : HoldAt w D lo R V) : w.rangeAt D 64 ((List.range 64).map V) := by
  intro j u hu
  have hj : j < 64 := by have := (List.getElem?_eq_some_iff.1 hu).1; simpa using this
  rw [List.getElem?_map, List.getElem?_range hj] at hu
  injection hu with hu
  rw [← hu]
  exact h.cv hj
set_option maxRecDepth 100000 in
set_option maxHeartbeats 4000000 in
theorem hAbove_any (D : Nat) (lo : Nat → Nat) (R : Nat → List Msg) (V : Nat → Value) (a b : Int) (w : World) (h : HoldAt w D lo R V) (hb : HoldBd lo R) (htot : (allN R 64).length ≤ 1000) (hd : ∀ p, p < 64 → ∀ m ∈ R p, m.ds.length ≤ 1000000) :
    Calls Tryd.prog 53 #[.pointer (some ⟨D, 0, none⟩), .agg #[.int .u64 a, .int .i64 b]] w fun e w' => CopyEnd w (sortM (aboveN R a b 64)) e w' ∧ Below w.heap.size w w' := by
  obtain ⟨i0, hi, hz0, hz1, hz2⟩ := info_parts info42
  have hbA := ba (br w) (.cells #[.int .u64 a, .int .i64 b] 38)
  have hx := heap_alloc_new w (.cells #[.int .u64 a, .int .i64 b] 38)
  obtain ⟨W, hW⟩ : ∃ W, W = w.alloc (.cells #[.int .u64 a, .int .i64 b] 38) := ⟨_, rfl⟩
  rw [← hW] at hbA hx
  have hh := h.below hbA
  have HR := Lib.hid hh.vlist
  obtain ⟨C, hC⟩ : ∃ C, C = (List.range 64).map V := ⟨_, rfl⟩
  have hCl : C.length = 64 := by rw [hC]; simp
  have hidx : ∀ (W' : World) (t : Nat), t < 64 → (Instr.index 131 (.agg C.toArray) (.int .i64 (t : Int))).run Tryd.prog W' = .ok (V t) W' := fun W' t ht => by
    obtain ⟨j, hj⟩ : ∃ j, Tryd.prog.info? 27 = some j := Option.isSome_iff_exists.1 (by kernel_rfl)
    have hs : (Tryd.prog.info? 27).map (·.size) = some 1 := by kernel_rfl
    rw [hj] at hs
    exact run_index_cell W' _ 27 42 64 _ _ t _ j Tryd.underlying131 Tryd.underlying27 hj (by simpa using hs) ht (by rw [hC]; simp [List.getElem?_range ht])
  rw [← hC] at HR
  have HA := Lib.hid (And.intro hbA (And.intro hx (And.intro hh (And.intro h hb))))
  have HI := Lib.hid hidx
  have HT := Lib.hid htot
  have HD := Lib.hid hd
  clear hbA hx hh hidx hC h hb htot hd
  go_enter Tryd.func53, Tryd.ntmps53
  go_upto_region 2 with (fail)
  rw [← hW]
  clear hW
  go_wp2_with (with_reducible refine wpList_load_mid rfl 131 (.tmp 12) rfl D 64 rfl C _ HR.out Tryd.underlying131 rfl (by rw [hCl]; kernel_rfl) ?_)
  go_loopw [5, 14] (fun u i wr => ∃ t : Nat, t ≤ 64 ∧ i = .int .i64 (t : Int) ∧ wr.ownsRow W.heap.size 42 6 u (aboveN R a b t).length (rowsM (aboveN R a b t)) ∧ Below W.heap.size W wr) (fun _ i _ => 64 - (intOf i).toNat)
  case atStart => exact ⟨0, by omega, rfl, ⟨rfl, .inl ⟨rfl, rfl⟩⟩, br _⟩
  case round =>
    obtain ⟨t, ht, rfl, ho, hB⟩ := hrel
    by_cases hlt : t < 64
    · have hbool : decide (t < 64) = true := by simpa using hlt
      have hbool' : decide ((t : Int) < 64) = true := by simp; omega
      obtain ⟨adt, capt, hvt⟩ := HA.out.2.2.1.form hlt
      have hix : ∀ W' : World, (Instr.index 131 (.agg C.toArray) (.int .i64 (t : Int))).run Tryd.prog W' = .ok (.slice adt (R t).length capt) W' := fun W' => by rw [HI.out W' t hlt, hvt]
      have hlb : (aboveN R a b t).length + (R t).length ≤ 1000 := by
        have h1 : (aboveN R a b t).length ≤ (allN R t).length := List.length_filter_le _ _
        have h2 := allN_succ R t
        have h3 := allN_le R (t := t + 1) (s := 64) (by omega)
        have h4 := HT.out
        rw [h2, List.length_append] at h3
        omega
      obtain ⟨n, hn⟩ : ∃ n, n = (R t).length := ⟨_, rfl⟩
      have hn1 : n ≤ 1000 := by omega
      obtain ⟨P, hP⟩ : ∃ P, P = aboveN R a b t := ⟨_, rfl⟩
      rw [← hP] at ho hlb
      rw [← hn] at hix hlb
      have HO := Lib.hid (And.intro ho (And.intro hB (And.intro hlt (And.intro hvt (And.intro hn hP)))))
      have HLB := Lib.hid hlb
      have ht64 : t ≤ 64 := ht
      clear ho hB hlt hvt hn hP hlb ht
      go_wp2_with fail
      obtain ⟨wo, rfl⟩ : ∃ wo : World, wo = wr := ⟨_, rfl⟩
      go_loopw [5, 19] (fun u i wr => ∃ k : Nat, k ≤ n ∧ i = .int .i64 (k : Int) ∧ wr.ownsRow W.heap.size 42 6 u (P ++ ((R t).take k).filter (keyAh a b)).length (rowsM (P ++ ((R t).take k).filter (keyAh a b))) ∧ Below W.heap.size W wr) (fun _ i _ => n - (intOf i).toNat)
      case atStart => exact ⟨0, by omega, rfl, by simpa using HO.out.1, HO.out.2.1⟩
      case round =>
        obtain ⟨k, hk, rfl, ho, hB⟩ := hrel
        by_cases hk2 : k < n
        · have hbool2 : decide (k < n) = true := by simpa using hk2
          have hbool2' : decide ((k : Int) < (n : Int)) = true := by simp; omega
          have hik : (k : Int) < (n : Int) := by omega
          have hkR : k < (R t).length := by have := HO.out.2.2.2.2.1; omega
          have hhr := HA.out.2.2.1.below hB
          have hot := hhr.own t HO.out.2.2.1
          rw [HO.out.2.2.2.1] at hot
          obtain ⟨g, rfl, hg, hrow⟩ := own_msg hot hkR
          have htk := List.take_succ_eq_append_getElem hkR
          obtain ⟨x, hxe⟩ : ∃ x, x = (R t)[k] := ⟨_, rfl⟩
          rw [← hxe] at hrow htk
          have y0 : wr.cell? ⟨g, k * 6, none⟩ = some (.int .i64 x.frm) := hrow 0 _ rfl
          have y1 : wr.cell? ⟨g, k * 6 + 1, none⟩ = some (.int .u32 (x.seq : Int)) := hrow 1 _ rfl
          have y2 : wr.cell? ⟨g, k * 6 + 2, none⟩ = some (.int .u64 (x.stamp : Int)) := hrow 2 _ rfl
          have y3 : wr.cell? ⟨g, k * 6 + 3, none⟩ = some (.int .i64 x.service) := hrow 3 _ rfl
          have y4 : wr.cell? ⟨g, k * 6 + 4, none⟩ = some (.slice x.da x.ds.length x.dc) := hrow 4 _ rfl
          have y5 : wr.cell? ⟨g, k * 6 + 5, none⟩ = some (.string x.pay) := hrow 5 _ rfl
          have hll : (P ++ ((R t).take k).filter (keyAh a b)).length ≤ 1000 := by
            have h1 := List.length_filter_le (keyAh a b) ((R t).take k)
            have h2 := HLB.out
            rw [List.length_append]
            rw [List.length_take] at h1
            omega
          obtain ⟨L, hL⟩ : ∃ L, L = P ++ ((R t).take k).filter (keyAh a b) := ⟨_, rfl⟩
          have hL2 : P ++ ((R t).take (k + 1)).filter (keyAh a b) = L ++ [x].filter (keyAh a b) := by rw [htk, List.filter_append, hL, List.append_assoc]
          rw [← hL] at ho hll
          have HK := Lib.hid (And.intro ho (And.intro hB (And.intro hk2 (And.intro hL2 hll))))
          clear ho hB hk2 hL hL2 hll hkR hhr hot hg hrow htk hxe hk
          go_wp2_with fail
          have hbW2 := ba (br wr) (.cells #[.int .i64 x.frm, .int .u32 (x.seq : Int), .int .u64 (x.stamp : Int), .int .i64 x.service, .slice x.da x.ds.length x.dc, .string x.pay] 42)
          have hxW2 := heap_alloc_new wr (.cells #[.int .i64 x.frm, .int .u32 (x.seq : Int), .int .u64 (x.stamp : Int), .int .i64 x.service, .slice x.da x.ds.length x.dc, .string x.pay] 42)
          clear y0 y1 y2 y3 y4 y5
          generalize wr.alloc (.cells #[.int .i64 x.frm, .int .u32 (x.seq : Int), .int .u64 (x.stamp : Int), .int .i64 x.service, .slice x.da x.ds.length x.dc, .string x.pay] 42) = W2 at *
          have hbWW := bt HK.out.2.1 hbW2
          have hkey := (hbWW.block _ (Array.getElem?_eq_some_iff.1 HA.out.2.1).1).trans HA.out.2.1
          have c0 := Bel.cell (cell_of_row _ _ 0 _ _ _ hkey : W2.cell? ⟨w.heap.size, 0, none⟩ = some (.int .u64 a)) (Array.getElem?_eq_some_iff.1 hkey).1
          have c1 := Bel.cell (cell_of_row _ _ 1 _ _ _ hkey : W2.cell? ⟨w.heap.size, 1, none⟩ = some (.int .i64 b)) (Array.getElem?_eq_some_iff.1 hkey).1
          have R1 := Lib.hid (Bel.range (w := W2) (b := wr.heap.size) (o := 0) (cs := (msgA x).toList) (fun j u hu => (cell_of_row _ _ _ _ _ _ hxW2).trans (by simpa [msgA] using hu)) (Array.getElem?_eq_some_iff.1 hxW2).1)
          have HOf := Lib.hid (fun (W' : World) => kOf_any x W')
          obtain ⟨z, hz⟩ : ∃ z, keyZ x.stamp x.frm a b = z := ⟨_, rfl⟩
          have HCm := Lib.hid (fun (W' : World) => kCmp_any x.stamp x.frm a b W')
          rw [hz] at HCm
          have HZ := Lib.hid (show keyAh a b x = decide (0 < z) by unfold keyAh; rw [hz])
          have H2 := Lib.hid (And.intro hbWW (And.intro hxW2 hbW2))
          clear hbWW hkey hz hxW2 hbW2
          refine wp_region_bel (by kernel_rfl) (by kernel_rfl) ?_
          repeat (first
            | (refine wpQuiet_load_want (by rfl) 42 (.tmp 9) rfl wr.heap.size 0 rfl (msgA x).toList _ R1.out Tryd.underlying42 rfl (by kernel_rfl) ?_; go_simp)
            | go_big_quiet_step ((first | (go_at_call 14; exact bel_call (HOf.out _)) | (go_at_call 13; exact bel_call (HCm.out _)))))
          refine wpQuiet_nil ?_
          intro x5
          have hb5 := x5.prop
          generalize x5.val = w5 at *
          have hbw5 := bt H2.out.1 hb5
          by_cases hzp : 0 < z
          · have d2 : decide (0 < z) = true := by simpa using hzp
            have hx5 := (hb5.block _ (Array.getElem?_eq_some_iff.1 H2.out.2.1).1).trans H2.out.2.1
            have y0 : w5.cell? ⟨wr.heap.size, 0, none⟩ = some (.int .i64 x.frm) := cell_of_row _ _ 0 _ _ _ hx5
            have y1 : w5.cell? ⟨wr.heap.size, 1, none⟩ = some (.int .u32 (x.seq : Int)) := cell_of_row _ _ 1 _ _ _ hx5
            have y2 : w5.cell? ⟨wr.heap.size, 2, none⟩ = some (.int .u64 (x.stamp : Int)) := cell_of_row _ _ 2 _ _ _ hx5
            have y3 : w5.cell? ⟨wr.heap.size, 3, none⟩ = some (.int .i64 x.service) := cell_of_row _ _ 3 _ _ _ hx5
            have y4 : w5.cell? ⟨wr.heap.size, 4, none⟩ = some (.slice x.da x.ds.length x.dc) := cell_of_row _ _ 4 _ _ _ hx5
            have y5 : w5.cell? ⟨wr.heap.size, 5, none⟩ = some (.string x.pay) := cell_of_row _ _ 5 _ _ _ hx5
            have hok5 := own_keptS HK.out.1 (Kept.of_below (S := fun _ => False) (bt H2.out.2.2 hb5)) (fun _ _ h => h)
            have H5 := Lib.hid (And.intro hok5 (And.intro hbw5 (bt HA.out.1 hbw5)))
            have hll := HK.out.2.2.2.2
            have hz5 := hbw5.size
            clear hx5 hok5 hbw5 hb5
            go_wp2_with (at_builtin; refine wpList_append_any _ rfl (.tmp 28) (.tmp 30) 27 rfl W.heap.size 42 i0 _ 6 72 Tryd.underlying27 hi hz0 hz1 hz2 rfl (by decide) u5 L.length (rowsM L) rfl (H5.out.1.alloc _) (w5.heap.size + 1) (some ⟨w5.heap.size, 0, none⟩) 1 1 (msgA x).toList rfl (reads_new w5 x) (msgA_one x) (by unfold maxLen; omega) (by omega) (by simp; omega) ?_)
            intro v6 w6 ho6 hg6 hu6
            have hbA5 := H5.out.2.1
            have hb6 : Below W.heap.size W w6 := grownB (hbA5.alloc hbA5.size _) (Nat.le_trans hbA5.size (ba (br w5) _).size) hg6 (fun b hb => (H5.out.1.lt b hb).1)
            have hL3 : P ++ ((R t).take (k + 1)).filter (keyAh a b) = L ++ [x] := by rw [HK.out.2.2.2.1, List.filter_cons, HZ.out, d2]; simp
            have ho6' : w6.ownsRow W.heap.size 42 6 v6 (P ++ ((R t).take (k + 1)).filter (keyAh a b)).length (rowsM (P ++ ((R t).take (k + 1)).filter (keyAh a b))) := by
              rw [hL3, List.length_append, rowsM_snoc]
              exact ho6
            have HE := Lib.hid (And.intro ho6' (And.intro hb6 HK.out.2.2.1))
            clear ho6 ho6' hg6 hu6 hb6 hL3 hbA5
            go_wp2
            exact ⟨⟨k + 1, HE.out.2.2, by go_num, HE.out.1, HE.out.2.1⟩, measI HE.out.2.2⟩
          · have d2 : decide (0 < z) = false := by simpa using hzp
            have hok5 := own_keptS HK.out.1 (Kept.of_below (S := fun _ => False) (bt H2.out.2.2 hb5)) (fun _ _ h => h)
            have hL3 : P ++ ((R t).take (k + 1)).filter (keyAh a b) = L := by rw [HK.out.2.2.2.1, List.filter_cons, HZ.out, d2]; simp
            have HE := Lib.hid (show w5.ownsRow W.heap.size 42 6 u5 (P ++ ((R t).take (k + 1)).filter (keyAh a b)).length (rowsM (P ++ ((R t).take (k + 1)).filter (keyAh a b))) from by rw [hL3]; exact hok5)
            have HB5 := Lib.hid (And.intro hbw5 HK.out.2.2.1)
            clear hok5 hL3 hbw5 hb5
            go_wp2
            exact ⟨⟨k + 1, HB5.out.2, by go_num, HE.out, HB5.out.1⟩, measI HB5.out.2⟩
        · have hbool2 : decide (k < n) = false := by simpa using hk2
          have hbool2' : decide ((k : Int) < (n : Int)) = false := by simp; omega
          have e1 : P ++ ((R t).take k).filter (keyAh a b) = aboveN R a b (t + 1) := by
            rw [aboveN_succ, ← HO.out.2.2.2.2.2, List.take_of_length_le (by have := HO.out.2.2.2.2.1; omega)]
          rw [e1] at ho
          have HE := Lib.hid (And.intro ho (And.intro hB HO.out.2.2.1))
          clear ho hB e1
          go_wp2
          exact ⟨⟨t + 1, HE.out.2.2, by go_num, HE.out.1, HE.out.2.1⟩, measI HE.out.2.2⟩
    · have hbool : decide (t < 64) = false := by simpa using hlt
      have hbool' : decide ((t : Int) < 64) = false := by simp; omega
      obtain rfl : t = 64 := by omega
      have hle : (aboveN R a b 64).length ≤ 1000 := Nat.le_trans (List.length_filter_le _ _) HT.out
      have hbw := bt HA.out.1 hB
      have HS := Lib.hid (kSort_gen u5 _ wr (RowsAt.of_own ho).rowsIn hle)
      have HB := Lib.hid hbw
      clear ho hbw hB hle
      go_wp2_with fail
      refine HS.out.mono ?_
      rintro e w2 ⟨⟨v2, rfl, hr2, _⟩, hb2⟩
      have hbw2 := bt HB.out hb2
      have hh2 := HA.out.2.2.2.1.below hbw2
      have hmem : ∀ m ∈ sortM (aboveN R a b 64), ∃ p, p < 64 ∧ m ∈ R p := fun m hm => by
        obtain ⟨p, h1, h2, _⟩ := aboveN_mem ((sortM_same _).mem.2 hm)
        exact ⟨p, h1, h2⟩
      have hms := hr2.rowsIn.msgsAt (by rw [sortM_len]; have := Nat.le_trans (List.length_filter_le (keyAh a b) (allN R 64)) HT.out; unfold aboveN; unfold allN at this; omega) (fun m hm => by
        obtain ⟨p, h1, h2⟩ := hmem m hm
        exact (hh2.ok p h1 m h2).1)
      have HC := Lib.hid (copies_any v2 _ w2 hms (by rw [sortM_len]; exact Nat.le_trans (List.length_filter_le _ _) HT.out) (fun m hm => by
        obtain ⟨p, h1, h2⟩ := hmem m hm
        exact HD.out p h1 m h2))
      have HB2 := Lib.hid hbw2
      clear hr2 hh2 hmem hms hbw2 hb2
      go_wp2_with fail
      refine HC.out.mono ?_
      rintro e w3 ⟨⟨v3, L3, rfl, h3⟩, hb3⟩
      have H3 := Lib.hid (And.intro (CopyEnd.up (show CopyEnd w2 (sortM (aboveN R a b 64)) (.returned v3) w3 from ⟨v3, L3, rfl, h3⟩) HB2.out.size) (bt HB2.out hb3))
      clear h3 hb3
      go_wp2
      go_ret
      exact H3.out
end Go.Proofs.YtgjlcjbmcnofiaaDoor
