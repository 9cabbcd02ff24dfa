/-
  The reference's order: its cells; member, New (of horizon and order).
  Conditions: those that each theorem names.
-/
import Derived.Test.YtgjlcjbmcnofiaaDoorRfC
namespace Go.Proofs.YtgjlcjbmcnofiaaDoor
set_option linter.unusedVariables false
set_option linter.unusedSimpArgs false
open Go.RowKit
/-- the reference's order, in plain -/
structure RO where
  me : Int
  mb : Nat
  A : List Msg
  lo : Nat → Nat
  c : Nat
  oth : Nat → Bool
  T : List Tld
  dn : Nat → Nat
  ls : Nat
  lf : Int
def rfF (S : RO) (va vz : Value) (i : Nat) : Value :=
  if i = 0 then .int .i64 S.me else if i = 1 then .int .u64 (S.mb : Int) else if i = 2 then va else if i < 67 then .int .u32 (S.lo (i - 3) : Int) else
  if i = 67 then .int .u64 (S.c : Int) else if i < 132 then .bool (S.oth (i - 68)) else if i = 132 then vz else if i < 197 then .int .u32 (S.dn (i - 133) : Int) else
  if i = 197 then .int .u64 (S.ls : Int) else .int .i64 S.lf
def rfC (S : RO) (va vz : Value) : Array Value := ((List.range 199).map (rfF S va vz)).toArray
theorem rfC_size (S : RO) (va vz : Value) : (rfC S va vz).size = 199 := by simp [rfC]
theorem rfC_get (S : RO) (va vz : Value) {i : Nat} (hi : i < 199) : (rfC S va vz)[i]? = some (rfF S va vz i) := by
  unfold rfC
  simp [List.getElem?_range hi]
theorem rfSize {S : RO} {va vz : Value} : (Tryd.prog.info? 73).map (·.size) = some (rfC S va vz).size := by rw [rfC_size]; kernel_rfl
theorem rfC_one (S : RO) (va vz : Value) (h1 : va.oneCell' = true) (h2 : vz.oneCell' = true) : (rfC S va vz).all (·.oneCell') = true := by
  unfold rfC
  refine all_oneCell_toArray (fun u hu => ?_)
  obtain ⟨i, _, rfl⟩ := List.mem_map.1 hu
  unfold rfF
  repeat (first | exact h1 | exact h2 | rfl | split)
theorem rfC_ext {S S' : RO} {va va' vz vz' : Value} {X : Array Value} (hs : X.size = 199) (h : ∀ i, i < 199 → X[i]? = some (rfF S' va' vz' i)) : X = rfC S' va' vz' := by
  apply Array.ext_getElem?
  intro i
  by_cases hi : i < 199
  · rw [h i hi, rfC_get _ _ _ hi]
  · rw [Array.getElem?_eq_none (by omega), Array.getElem?_eq_none (by rw [rfC_size]; omega)]
theorem rfC_set {S S' : RO} {va va' vz vz' : Value} {j : Nat} {v : Value} (h : ∀ i, i < 199 → (if i = j then v else rfF S va vz i) = rfF S' va' vz' i) : (rfC S va vz).setIfInBounds j v = rfC S' va' vz' := by
  refine rfC_ext (S := S) (va := va) (vz := vz) (by rw [Array.size_setIfInBounds, rfC_size]) fun i hi => ?_
  rw [Array.getElem?_setIfInBounds, rfC_size, ← h i hi]
  by_cases e : j = i
  · subst e; rw [if_pos rfl, if_pos hi, if_pos rfl]
  · rw [if_neg e, if_neg (Ne.symm e), rfC_get _ _ _ hi]
/-- cells set as a run -/
theorem rfC_run {S S' : RO} {va va' vz vz' : Value} {o : Nat} {vs : List Value} (ho : o + vs.length ≤ 199) (h : ∀ i, i < 199 → (if o ≤ i ∧ i < o + vs.length then vs.getD (i - o) undef else rfF S va vz i) = rfF S' va' vz' i) :
    ((rfC S va vz).toList.take o ++ vs ++ (rfC S va vz).toList.drop (o + vs.length)).toArray = rfC S' va' vz' := by
  have hl : (rfC S va vz).toList.length = 199 := by rw [Array.length_toList, rfC_size]
  have hlt : ((rfC S va vz).toList.take o).length = o := by rw [List.length_take, hl]; omega
  refine rfC_ext (S := S) (va := va) (vz := vz) (by simp [rfC_size]; omega) fun i hi => ?_
  rw [← h i hi, List.getElem?_toArray]
  have hg : ∀ k, k < 199 → (rfC S va vz).toList[k]? = some (rfF S va vz k) := fun k hk => by
    rw [Array.getElem?_toList, rfC_get _ _ _ hk]
  by_cases h1 : i < o
  · rw [if_neg (by omega), List.append_assoc, List.getElem?_append_left (by omega), List.getElem?_take_of_lt h1, hg i hi]
  · by_cases h2 : i < o + vs.length
    · rw [if_pos ⟨by omega, h2⟩, List.append_assoc, List.getElem?_append_right (by omega), hlt, List.getElem?_append_left (by omega)]
      rw [List.getD_eq_getElem?_getD, List.getElem?_eq_getElem (by omega)]
      rfl
    · rw [if_neg (by omega), List.getElem?_append_right (by simp [hlt]; omega), List.length_append, hlt, List.getElem?_drop, show o + vs.length + (i - (o + vs.length)) = i by omega, hg i hi]
section
variable (S : RO) (va vz : Value)
theorem rfF_lo {i : Nat} (h : 3 ≤ i) (h2 : i < 67) : rfF S va vz i = .int .u32 (S.lo (i - 3) : Int) := by
  unfold rfF
  rw [if_neg (show ¬ i = 0 by omega), if_neg (show ¬ i = 1 by omega), if_neg (show ¬ i = 2 by omega), if_pos h2]
theorem rfF_oth {i : Nat} (h : 68 ≤ i) (h2 : i < 132) : rfF S va vz i = .bool (S.oth (i - 68)) := by
  unfold rfF
  rw [if_neg (show ¬ i = 0 by omega), if_neg (show ¬ i = 1 by omega), if_neg (show ¬ i = 2 by omega), if_neg (show ¬ i < 67 by omega), if_neg (show ¬ i = 67 by omega), if_pos h2]
theorem rfF_dn {i : Nat} (h : 133 ≤ i) (h2 : i < 197) : rfF S va vz i = .int .u32 (S.dn (i - 133) : Int) := by
  unfold rfF
  rw [if_neg (show ¬ i = 0 by omega), if_neg (show ¬ i = 1 by omega), if_neg (show ¬ i = 2 by omega), if_neg (show ¬ i < 67 by omega), if_neg (show ¬ i = 67 by omega), if_neg (show ¬ i < 132 by omega), if_neg (show ¬ i = 132 by omega), if_pos h2]
theorem rf_where {i : Nat} (hi : i < 199) : i = 0 ∨ i = 1 ∨ i = 2 ∨ (3 ≤ i ∧ i < 67) ∨ i = 67 ∨ (68 ≤ i ∧ i < 132) ∨ i = 132 ∨ (133 ≤ i ∧ i < 197) ∨ i = 197 ∨ i = 198 := by omega
theorem rf_me : (rfC S va vz)[0]? = some (.int .i64 S.me) := rfl
theorem rf_mb : (rfC S va vz)[1]? = some (.int .u64 (S.mb : Int)) := rfl
theorem rf_c : (rfC S va vz)[67]? = some (.int .u64 (S.c : Int)) := rfl
theorem rf_dn {p : Nat} (hp : p < 64) : (rfC S va vz)[133 + p]? = some (.int .u32 (S.dn p : Int)) := by
  rw [rfC_get _ _ _ (by omega), rfF_dn _ _ _ (by omega) (by omega), show 133 + p - 133 = p by omega]
theorem refX_get (v : Value) (lo : Nat → Nat) {j : Nat} (hj : j < 65) : (refX v lo)[j]? = some (if j = 0 then v else .int .u32 (lo (j - 1) : Int)) := by
  by_cases e : j = 0
  · subst e; rfl
  · obtain ⟨k, rfl⟩ : ∃ k, j = 1 + k := ⟨j - 1, by omega⟩
    rw [refX_lo _ _ (by omega), if_neg (by omega), show 1 + k - 1 = k by omega]
theorem hrF_oth (c : Nat) (oth : Nat → Bool) (v : Value) {j : Nat} (h : 1 ≤ j) (h2 : j < 65) : hrF c oth v j = .bool (oth (j - 1)) := by
  unfold hrF
  rw [if_neg (show ¬ j = 0 by omega), if_pos h2]
theorem rf_H {j : Nat} (hj : j < 65) : (rfC S va vz)[2 + j]? = (refX va S.lo)[j]? := by
  rw [rfC_get _ _ _ (by omega), refX_get _ _ hj]
  by_cases e : j = 0
  · subst e; rfl
  · rw [rfF_lo _ _ _ (by omega) (by omega), if_neg e, show 2 + j - 3 = j - 1 by omega]
theorem rf_Z {j : Nat} (hj : j < 66) : (rfC S va vz)[67 + j]? = (hrC S.c S.oth vz)[j]? := by
  rw [rfC_get _ _ _ (by omega), hrC_get _ _ _ hj]
  rcases (by omega : j = 0 ∨ (1 ≤ j ∧ j < 65) ∨ j = 65) with rfl | ⟨h1, h2⟩ | rfl
  · rfl
  · rw [rfF_oth _ _ _ (by omega) (by omega), hrF_oth _ _ _ h1 h2, show 67 + j - 68 = j - 1 by omega]
  · rfl
set_option maxRecDepth 100000 in
theorem rf_setDn {p : Nat} (hp : p < 64) (x : Nat) : (rfC S va vz).setIfInBounds (133 + p) (.int .u32 (x : Int)) = rfC { S with dn := upd S.dn p x } va vz := rfC_set fun i hi => by
  by_cases e : i = 133 + p
  · subst e
    rw [if_pos rfl]
    rw [rfF_dn _ _ _ (by omega) (by omega), show 133 + p - 133 = p by omega]
    show Value.int .u32 (x : Int) = Value.int .u32 (((upd S.dn p x) p : Nat) : Int)
    rw [upd_same]
  · rw [if_neg e]
    rcases rf_where hi with rfl | rfl | rfl | ⟨h1, h2⟩ | rfl | ⟨h1, h2⟩ | rfl | ⟨h1, h2⟩ | rfl | rfl
    · rfl
    · rfl
    · rfl
    · rw [rfF_lo _ _ _ h1 h2, rfF_lo _ _ _ h1 h2]
    · rfl
    · rw [rfF_oth _ _ _ h1 h2, rfF_oth _ _ _ h1 h2]
    · rfl
    · rw [rfF_dn _ _ _ h1 h2, rfF_dn _ _ _ h1 h2]
      show Value.int .u32 (S.dn (i - 133) : Int) = Value.int .u32 (((upd S.dn p x) (i - 133) : Nat) : Int)
      rw [upd_ne _ _ (show i - 133 ≠ p by omega)]
    · rfl
    · rfl
theorem rf_setC (x : Nat) : (rfC S va vz).setIfInBounds 67 (.int .u64 (x : Int)) = rfC { S with c := x } va vz := rfC_set fun i hi => by
  by_cases e : i = 67
  · subst e
    rw [if_pos rfl]
    rfl
  · rw [if_neg e]
    rcases rf_where hi with rfl | rfl | rfl | ⟨h1, h2⟩ | rfl | ⟨h1, h2⟩ | rfl | ⟨h1, h2⟩ | rfl | rfl
    · rfl
    · rfl
    · rfl
    · rw [rfF_lo _ _ _ h1 h2, rfF_lo _ _ _ h1 h2]
    · exact absurd rfl e
    · rw [rfF_oth _ _ _ h1 h2, rfF_oth _ _ _ h1 h2]
    · rfl
    · rw [rfF_dn _ _ _ h1 h2, rfF_dn _ _ _ h1 h2]
    · rfl
    · rfl
theorem rf_setMb (x : Nat) : (rfC S va vz).setIfInBounds 1 (.int .u64 (x : Int)) = rfC { S with mb := x } va vz := rfC_set fun i hi => by
  by_cases e : i = 1
  · subst e
    rw [if_pos rfl]
    rfl
  · rw [if_neg e]
    rcases rf_where hi with rfl | rfl | rfl | ⟨h1, h2⟩ | rfl | ⟨h1, h2⟩ | rfl | ⟨h1, h2⟩ | rfl | rfl
    · rfl
    · exact absurd rfl e
    · rfl
    · rw [rfF_lo _ _ _ h1 h2, rfF_lo _ _ _ h1 h2]
    · rfl
    · rw [rfF_oth _ _ _ h1 h2, rfF_oth _ _ _ h1 h2]
    · rfl
    · rw [rfF_dn _ _ _ h1 h2, rfF_dn _ _ _ h1 h2]
    · rfl
    · rfl
theorem rf_setH (u : Value) (lo' : Nat → Nat) (A' : List Msg) : ((rfC S va vz).toList.take 2 ++ (refX u lo').toList ++ (rfC S va vz).toList.drop (2 + (refX u lo').toList.length)).toArray = rfC { S with lo := lo', A := A' } u vz := by
  have hl : (refX u lo').toList.length = 65 := by rw [Array.length_toList, refX_size]
  refine rfC_run (by omega) fun i hi => ?_
  rw [hl]
  by_cases h : 2 ≤ i ∧ i < 2 + 65
  · rw [if_pos h, List.getD_eq_getElem?_getD, Array.getElem?_toList, refX_get _ _ (by omega)]
    by_cases e : i = 2
    · subst e; rfl
    · rw [if_neg (show ¬ i - 2 = 0 by omega), rfF_lo _ _ _ (by omega) (by omega), show i - 2 - 1 = i - 3 by omega]
      rfl
  · rw [if_neg h]
    rcases rf_where hi with rfl | rfl | rfl | ⟨h1, h2⟩ | rfl | ⟨h1, h2⟩ | rfl | ⟨h1, h2⟩ | rfl | rfl
    · rfl
    · rfl
    · omega
    · omega
    · rfl
    · rw [rfF_oth _ _ _ h1 h2, rfF_oth _ _ _ h1 h2]
    · rfl
    · rw [rfF_dn _ _ _ h1 h2, rfF_dn _ _ _ h1 h2]
    · rfl
    · rfl
theorem rf_setZ (c' : Nat) (u : Value) (T' : List Tld) : ((rfC S va vz).toList.take 67 ++ (hrC c' S.oth u).toList ++ (rfC S va vz).toList.drop (67 + (hrC c' S.oth u).toList.length)).toArray = rfC { S with c := c', T := T' } va u := by
  have hl : (hrC c' S.oth u).toList.length = 66 := by rw [Array.length_toList, hrC_size]
  refine rfC_run (by omega) fun i hi => ?_
  rw [hl]
  by_cases h : 67 ≤ i ∧ i < 67 + 66
  · rw [if_pos h, List.getD_eq_getElem?_getD, Array.getElem?_toList, hrC_get _ _ _ (by omega)]
    rcases (by omega : i = 67 ∨ (68 ≤ i ∧ i < 132) ∨ i = 132) with rfl | ⟨h1, h2⟩ | rfl
    · rfl
    · rw [rfF_oth _ _ _ h1 h2, hrF_oth _ _ _ (by omega) (by omega), show i - 67 - 1 = i - 68 by omega]
      rfl
    · rfl
  · rw [if_neg h]
    rcases rf_where hi with rfl | rfl | rfl | ⟨h1, h2⟩ | rfl | ⟨h1, h2⟩ | rfl | ⟨h1, h2⟩ | rfl | rfl
    · rfl
    · rfl
    · rfl
    · rw [rfF_lo _ _ _ h1 h2, rfF_lo _ _ _ h1 h2]
    · omega
    · omega
    · omega
    · rw [rfF_dn _ _ _ h1 h2, rfF_dn _ _ _ h1 h2]
    · rfl
    · rfl
theorem rf_setL (s : Nat) (f : Int) : ((rfC S va vz).toList.take 197 ++ [Value.int .u64 (s : Int), Value.int .i64 f] ++ (rfC S va vz).toList.drop (197 + ([Value.int .u64 (s : Int), Value.int .i64 f] : List Value).length)).toArray = rfC { S with ls := s, lf := f } va vz := by
  refine rfC_run (by simp) fun i hi => ?_
  rcases rf_where hi with rfl | rfl | rfl | ⟨h1, h2⟩ | rfl | ⟨h1, h2⟩ | rfl | ⟨h1, h2⟩ | rfl | rfl
  · rfl
  · rfl
  · rfl
  · rw [if_neg (by omega), rfF_lo _ _ _ h1 h2, rfF_lo _ _ _ h1 h2]
  · rfl
  · rw [if_neg (by omega), rfF_oth _ _ _ h1 h2, rfF_oth _ _ _ h1 h2]
  · rfl
  · rw [if_neg (by omega), rfF_dn _ _ _ h1 h2, rfF_dn _ _ _ h1 h2]
  · rfl
  · rfl
end
end Go.Proofs.YtgjlcjbmcnofiaaDoor
namespace Go.Proofs.YtgjlcjbmcnofiaaDoor
set_option linter.unusedVariables false
set_option linter.unusedSimpArgs false
open Go.RowKit
theorem shrBit (s q : Nat) (hs : s < 18446744073709551616) : (bits .and .u64 ((s : Int) / 2 ^ q) 1 == 1) = s.testBit q := by
  have e : ((s : Int) / 2 ^ q) = ((s / 2 ^ q : Nat) : Int) := by simp
  have hle : s / 2 ^ q ≤ s := Nat.div_le_self _ _
  rw [e]
  have h1 := bits_and_u64_nat (s / 2 ^ q) 1 (by omega) (by decide)
  rw [show ((1 : Nat) : Int) = 1 from rfl] at h1
  rw [h1, Nat.testBit_eq_decide_div_mod_eq, Bool.eq_iff_iff, Nat.and_one_is_mod]
  simp
  omega
/-- an order handed in by value, in memory -/
structure RoCtx (w : World) (X : Array Value) (wr : World) : Prop where
  blk : wr.heap[w.heap.size]? = some (.cells X 73 (0, 0))
  bel : Below w.heap.size w wr
theorem RoCtx.below {w wr w' : World} {X : Array Value} (h : RoCtx w X wr) (hb : Below wr.heap.size wr w') : RoCtx w X w' :=
  ⟨(hb.block _ (Array.getElem?_eq_some_iff.1 h.blk).1).trans h.blk, bt h.bel hb⟩
theorem RoCtx.new (w : World) (X : Array Value) : RoCtx w X (w.alloc (.cells X 73)) := ⟨heap_alloc_new w _, ba (br w) _⟩
set_option maxRecDepth 100000 in
set_option maxHeartbeats 4000000 in
theorem member_any (S : RO) (va vz : Value) (p : Int) (w : World) (hm : S.mb < 18446744073709551616) :
    Calls Tryd.prog 81 #[.agg (rfC S va vz), .int .i64 p] w fun e w' => e = .returned (.bool (hasS S.mb p)) ∧ Below w.heap.size w w' := by
  have hmb := rf_mb S va vz
  obtain ⟨X, hX⟩ : ∃ X, X = rfC S va vz := ⟨_, rfl⟩
  rw [← hX] at hmb ⊢
  obtain ⟨W, hW⟩ : ∃ W, W = w.alloc (.cells X 73) := ⟨_, rfl⟩
  have HC := Lib.hid (show RoCtx w X W from by rw [hW]; exact .new w X)
  have c1 : W.cell? ⟨w.heap.size, 1, none⟩ = some (.int .u64 (S.mb : Int)) := (cell_of_row _ _ 1 _ _ _ HC.out.blk).trans hmb
  have HB := Lib.hid (fun q => shrBit S.mb q hm)
  have HW := Lib.hid hW
  have HH := Lib.hid (show hasS S.mb p = (decide (0 ≤ p ∧ p < 64) && S.mb.testBit p.toNat) from rfl)
  clear hmb hX hW hm
  go_enter Tryd.func81, Tryd.ntmps81
  go_upto_region 1 with (fail)
  rw [← HW.out]
  clear HW
  by_cases h0 : 0 ≤ p
  · by_cases h1 : p < 64
    · obtain ⟨q, rfl⟩ := Int.eq_ofNat_of_zero_le h0
      have d0 : decide (0 ≤ (q : Int)) = true := by simp
      have d1 : decide ((q : Int) < 64) = true := by simpa using h1
      have e1 := HH.out
      rw [decide_eq_true ⟨h0, h1⟩, Bool.true_and, Int.toNat_natCast, ← HB.out q] at e1
      have HE := Lib.hid e1
      have h1' : (q : Int) < 64 := h1
      clear e1 HB HH
      go_wp2_with fail
      go_ret
      refine ⟨?_, HC.out.bel⟩
      rw [HE.out]
      simp
    · have d0 : decide (0 ≤ p) = true := by simpa using h0
      have d1 : decide (p < 64) = false := by simpa using h1
      have e1 := HH.out
      rw [decide_eq_false (fun h => h1 h.2), Bool.false_and] at e1
      have HE := Lib.hid e1
      clear e1 HB HH h0 h1
      go_wp2_with fail
      go_ret
      exact ⟨by rw [HE.out]; rfl, HC.out.bel⟩
  · have d0 : decide (0 ≤ p) = false := by simpa using h0
    have e1 := HH.out
    rw [decide_eq_false (fun h => h0 h.1), Bool.false_and] at e1
    have HE := Lib.hid e1
    clear e1 HB HH h0
    go_wp2_with fail
    go_ret
    exact ⟨by rw [HE.out]; rfl, HC.out.bel⟩
theorem hrC_seto (c : Nat) (oth oth' : Nat → Bool) (v : Value) {k : Nat} (hk : k < 64) (b : Bool) (h : ∀ q, q < 64 → oth' q = if q = k then b else oth q) : (hrC c oth v).setIfInBounds (1 + k) (.bool b) = hrC c oth' v := by
  apply Array.ext_getElem?
  intro i
  rw [Array.getElem?_setIfInBounds, hrC_size]
  by_cases hi : i < 66
  · rw [hrC_get _ _ _ hi, hrC_get _ _ _ hi]
    rcases (by omega : i = 0 ∨ (1 ≤ i ∧ i < 65) ∨ i = 65) with rfl | ⟨h1, h2⟩ | rfl
    · rw [if_neg (by omega)]; rfl
    · rw [hrF_oth _ _ _ h1 h2, hrF_oth _ _ _ h1 h2, h (i - 1) (by omega)]
      by_cases e : 1 + k = i
      · rw [if_pos e, if_pos (show 1 + k < 66 by omega), if_pos (show i - 1 = k by omega)]
      · rw [if_neg e, if_neg (show ¬ i - 1 = k by omega)]
    · rw [if_neg (by omega)]; rfl
  · rw [if_neg (by omega), Array.getElem?_eq_none (by rw [hrC_size]; omega), Array.getElem?_eq_none (by rw [hrC_size]; omega)]
/-- whom the reference's horizon hears of -/
def othR (me : Int) (mb : Nat) (q : Nat) : Bool := mb.testBit q && ((q : Int) != me)
def othK (me : Int) (mb k : Nat) (q : Nat) : Bool := decide (q < k) && othR me mb q
structure NewSt (w : World) (Z : Array Value) (me : Int) (mb k : Nat) (wr : World) : Prop where
  res : wr.heap[w.heap.size]? = some (.cells Z 71 (0, 0))
  h : wr.heap[w.heap.size + 1]? = some (.cells (hrC 0 (othK me mb k) (.slice none 0 0)) 71 (0, 0))
  bel : Below w.heap.size w wr
set_option maxRecDepth 100000 in
set_option maxHeartbeats 8000000 in
theorem rNew13_any (me : Int) (mb : Nat) (w : World) (hm : mb < 18446744073709551616) :
    Calls Tryd.prog 55 #[.int .i64 me, .int .u64 (mb : Int)] w fun e w' => e = .returned (.agg (hrC 0 (othK me mb 64) (.slice none 0 0))) ∧ Below w.heap.size w w' := by
  have hz := zeroH_run
  have hzz : zeroH = hrC 0 (othK me mb 0) (.slice none 0 0) := by
    unfold zeroH
    congr 1
  obtain ⟨Z, hZ⟩ : ∃ Z, Z = zeroH := ⟨_, rfl⟩
  have hZs : Z.size = 66 := by rw [hZ]; unfold zeroH; rw [hrC_size]
  rw [← hZ] at hz hzz
  obtain ⟨w1, hw1⟩ : ∃ w1, w1 = w.alloc (.cells Z 71) := ⟨_, rfl⟩
  obtain ⟨w2, hw2⟩ : ∃ w2, w2 = w1.alloc (.cells Z 71) := ⟨_, rfl⟩
  have HS0 := Lib.hid (show NewSt w Z me mb 0 w2 from by
    have h1 := heap_alloc_new w (.cells Z 71)
    have h2 := heap_alloc_new w1 (.cells Z 71)
    have b1 := ba (br w) (.cells Z 71)
    have b2 := ba (br w1) (.cells Z 71)
    rw [← hw1] at h1 b1
    rw [← hw2] at h2 b2
    have s1 : w1.heap.size = w.heap.size + 1 := by rw [hw1]; simp
    rw [s1] at h2
    exact ⟨(b2.block _ (Array.getElem?_eq_some_iff.1 h1).1).trans h1, by rw [← hzz]; exact h2, bt b1 b2⟩)
  have HW := Lib.hid (And.intro hw1 (And.intro hw2 (show w1.heap.size = w.heap.size + 1 from by rw [hw1]; simp)))
  have HZS := Lib.hid hZs
  have HB := Lib.hid (fun q => shrBit mb q hm)
  clear hZ hZs hzz hw1 hw2 hm
  go_enter Tryd.func55, Tryd.ntmps55
  go_upto_region 1 with (fail)
  rw [← HW.out.1]
  go_upto_region 2 with (fail)
  rw [← HW.out.2.1, HW.out.2.2]
  clear HW hz
  go_wp2_with fail
  go_loopw [6] (fun i wr => ∃ k : Nat, k ≤ 64 ∧ i = .int .i64 (k : Int) ∧ Hid (NewSt w Z me mb k wr)) (fun i _ => 64 - (intOf i).toNat)
  case atStart => exact ⟨0, by omega, rfl, HS0⟩
  case round =>
    obtain ⟨k, hk, rfl, HS⟩ := hrel
    clear HS0
    by_cases hlt : k < 64
    · have hbool : decide ((k : Int) < 64) = true := by simp; omega
      have hi0 : (k : Int) < 64 := by omega
      have HLT := Lib.hid hlt
      have HBk := Lib.hid (HB.out k)
      have HE := Lib.hid (show ∀ b : Bool, b = othR me mb k → NewSt w Z me mb (k + 1) (wr.setCell ⟨w.heap.size + 1, 1 + k, none⟩ (.bool b)) from fun b hb => by
        have e := setCell_block HS.out.h (1 + k) (.bool b)
        rw [hrC_seto 0 _ (othK me mb (k + 1)) _ HLT.out b (fun q hq => by
          unfold othK
          by_cases e : q = k
          · subst e; rw [if_pos rfl, hb]; simp
          · rw [if_neg e]
            congr 1
            simp
            omega)] at e
        exact ⟨(Below.heap_setCell _ _ _ _ (by simp)).trans HS.out.res, e, bs HS.out.bel (by show w.heap.size ≤ w.heap.size + 1; omega) _⟩)
      have cf := frozen_of_row _ _ (1 + k) _ _ HS.out.h
      have ck : wr.cell? ⟨w.heap.size + 1, 1 + k, none⟩ = some (.bool (othK me mb k k)) := (cell_of_row _ _ (1 + k) _ _ _ HS.out.h).trans (hrC_oth _ _ _ HLT.out)
      have HO := Lib.hid (show othR me mb k = ((bits .and .u64 ((mb : Int) / 2 ^ k) 1 == 1) && ((k : Int) != me)) from by rw [HBk.out]; rfl)
      generalize othK me mb k k = ob at *
      clear HS hlt hk HB HBk
      cases hb1 : (bits .and .u64 ((mb : Int) / 2 ^ k) 1 == 1)
      · have HR := Lib.hid (HE.out false (by rw [HO.out, hb1]; rfl))
        clear HE HO
        go_wp2_with fail
        exact ⟨⟨k + 1, HLT.out, by go_num, HR⟩, by have := HLT.out; simp [intOf]; omega⟩
      · cases hb2 : ((k : Int) != me)
        · have HR := Lib.hid (HE.out false (by rw [HO.out, hb1, hb2]; rfl))
          clear HE HO
          go_wp2_with fail
          exact ⟨⟨k + 1, HLT.out, by go_num, HR⟩, by have := HLT.out; simp [intOf]; omega⟩
        · have HR := Lib.hid (HE.out true (by rw [HO.out, hb1, hb2]; rfl))
          clear HE HO
          go_wp2_with fail
          exact ⟨⟨k + 1, HLT.out, by go_num, HR⟩, by have := HLT.out; simp [intOf]; omega⟩
    · have hbool : decide ((k : Int) < 64) = false := by simp; omega
      obtain rfl : k = 64 := by omega
      have hsz : Z.size = (hrC 0 (othK me mb 64) (.slice none 0 0)).size := by rw [HZS.out, hrC_size]
      obtain ⟨Y, hY⟩ : ∃ Y, Y = hrC 0 (othK me mb 64) (.slice none 0 0) := ⟨_, rfl⟩
      have hY1 : Y.all (·.oneCell') = true := by rw [hY]; exact hrC_one _ _ _ rfl
      have hYs : (Tryd.prog.info? 71).map (·.size) = some Y.size := by rw [hY]; exact hrSize
      have hh := HS.out.h
      rw [← hY] at hh hsz
      have HQ := Lib.hid (And.intro HS.out.res (And.intro hh (And.intro hY1 (And.intro hYs (And.intro hsz (And.intro hY HS.out.bel))))))
      clear HS hlt hk hsz hY hY1 hYs hh
      go_wp2_with (first
        | (with_reducible refine wpList_load_row rfl 71 (.tmp 5) rfl (w.heap.size + 1) rfl 71 Y (0, 0) _ HQ.out.2.1 Tryd.underlying71 rfl HQ.out.2.2.2.1 ?_)
        | (with_reducible refine wpList_store_row rfl 71 (.tmp 4) (.tmp 24) rfl w.heap.size Y rfl rfl 71 _ HQ.out.1 HQ.out.2.2.2.1 HQ.out.2.2.2.2.1 HQ.out.2.2.1 ?_)
        | fail)
      exact bodyPost_ret (results_cell_row Tryd.results55 _ _ w.heap.size 71 Y (0, 0) _ rfl (setRow_heap _ _ _ _ _ _ HQ.out.1) Tryd.underlying71 rfl HQ.out.2.2.2.1) rfl ⟨by rw [HQ.out.2.2.2.2.2.1], bsr' HQ.out.2.2.2.2.2.2 (Nat.le_refl _) Y⟩
/-- a new order of the reference -/
def ro0 (me : Int) (mb : Nat) : RO := ⟨me, withS mb me, [], fun _ => 0, 0, othK me mb 64, [], fun _ => 0, 0, 0⟩
def roB (me : Int) (mb : Nat) : RO := ⟨me, mb, [], fun _ => 0, 0, othK me mb 64, [], fun _ => 0, 0, 0⟩
theorem bld14 (me : Int) (mb : Nat) (oth : Nat → Bool) : Tryd.prog.built 73 [(0, .int .i64 me), (1, .int .u64 (mb : Int)), (3, .agg (hrC 0 oth (.slice none 0 0)))] = some (rfC ⟨me, mb, [], fun _ => 0, 0, oth, [], fun _ => 0, 0, 0⟩ (.slice none 0 0) (.slice none 0 0)) := by kernel_rfl
def zeroR : Array Value := rfC ⟨0, 0, [], fun _ => 0, 0, fun _ => false, [], fun _ => 0, 0, 0⟩ (.slice none 0 0) (.slice none 0 0)
theorem zeroR_run : ∀ W : World, (zeroValue 73).run Tryd.prog W = .ok (.agg zeroR) W := fun W => by kernel_rfl
set_option maxRecDepth 100000 in
set_option maxHeartbeats 8000000 in
theorem rNew_any (me : Int) (mb : Nat) (w : World) (hm : mb < 18446744073709551616) :
    Calls Tryd.prog 24 #[.int .i64 me, .int .u64 (mb : Int)] w fun e w' => e = .returned (.agg (rfC (ro0 me mb) (.slice none 0 0) (.slice none 0 0))) ∧ Below w.heap.size w w' := by
  have hz := zeroR_run
  obtain ⟨Z, hZ⟩ : ∃ Z, Z = zeroR := ⟨_, rfl⟩
  have hZs : Z.size = 199 := by rw [hZ]; unfold zeroR; rw [rfC_size]
  rw [← hZ] at hz
  have hH := rNew13_any me mb
  have hbl := bld14 me mb (othK me mb 64)
  obtain ⟨H, hHH⟩ : ∃ H, H = hrC 0 (othK me mb 64) (.slice none 0 0) := ⟨_, rfl⟩
  obtain ⟨Y, hY⟩ : ∃ Y, Y = rfC (roB me mb) (.slice none 0 0) (.slice none 0 0) := ⟨_, rfl⟩
  have hbl2 : Tryd.prog.built 73 [(0, .int .i64 me), (1, .int .u64 (mb : Int)), (3, .agg H)] = some Y := by rw [hHH, hY]; exact hbl
  rw [← hHH] at hH
  obtain ⟨w1, hw1⟩ : ∃ w1, w1 = w.alloc (.cells Z 73) := ⟨_, rfl⟩
  have hx1 := heap_alloc_new w (.cells Z 73)
  have hb1 := ba (br w) (.cells Z 73)
  rw [← hw1] at hx1 hb1
  have HC := Lib.hid (hH w1 hm)
  have HW := Lib.hid (And.intro hw1 (And.intro hx1 hb1))
  have HBL := Lib.hid hbl2
  have HY := Lib.hid hY
  have HZS := Lib.hid hZs
  have HM := Lib.hid hm
  clear hZ hZs hH hbl hHH hY hbl2 hw1 hx1 hb1 hm
  go_enter Tryd.func24, Tryd.ntmps24
  go_upto_region 1 with (fail)
  rw [← HW.out.1]
  refine wp_region_lit ?_
  iterate 4
    refine wpList_step (fun K hK => ?_)
    go_simp
    refine hK _ _ ?_
    clear hK K
    (try simp only [Act.put, List.setIfInBounds_toArray, List.set_cons_zero, List.set_cons_succ])
  refine wpList_step (fun K hK => ?_)
  go_simp
  refine HC.out.mono ?_
  rintro e w2 ⟨rfl, hb2⟩
  refine hK _ _ ?_
  clear hK K
  (try simp only [Act.put, List.setIfInBounds_toArray, List.set_cons_zero, List.set_cons_succ])
  refine wpList_buildT rfl 73 #[(0, .tmp 6), (1, .tmp 7), (3, .tmp 10)] rfl Y (by simp only [List.map_toArray, List.map_cons, List.map_nil]; exact HBL.out) ?_
  (try simp only [Act.put, List.setIfInBounds_toArray, List.set_cons_zero, List.set_cons_succ])
  refine wpList_step (fun K hK => ?_)
  go_simp
  refine hK _ _ ?_
  clear hK K
  (try simp only [Act.put, List.setIfInBounds_toArray, List.set_cons_zero, List.set_cons_succ])
  have hx3 := heap_alloc_new w2 (.cells Z 73)
  have hb3 := ba hb2 (.cells Z 73)
  have hYs : (Tryd.prog.info? 73).map (·.size) = some Y.size := by rw [HY.out]; exact rfSize
  have hY1 : Y.all (·.oneCell') = true := by rw [HY.out]; exact rfC_one _ _ _ rfl rfl
  have hYZ : Z.size = Y.size := by rw [HZS.out, HY.out, rfC_size]
  refine wpList_store_row rfl 73 (.tmp 5) (.tmp 11) rfl w2.heap.size Y rfl rfl 73 _ hx3 hYs hYZ hY1 ?_
  simp only [Act.put]
  have hr3 : ((w2.alloc (.cells Z 73)).setRow w2.heap.size Y).heap[w2.heap.size]? = some (.cells Y 73 (0, 0)) := setRow_heap _ _ _ _ _ _ hx3
  have l1 := (Array.getElem?_eq_some_iff.1 HW.out.2.1).1
  have hs2 := hb2.size
  have hq3 : ((w2.alloc (.cells Z 73)).setRow w2.heap.size Y).heap[w.heap.size]? = some (.cells Z 73 (0, 0)) := (setRow_other _ _ _ _ (by omega)).trans ((hb3.block _ l1).trans HW.out.2.1)
  have hbw : Below w.heap.size w ((w2.alloc (.cells Z 73)).setRow w2.heap.size Y) := bsr' (bt HW.out.2.2 hb3) (by have := HW.out.2.2.size; omega) Y
  have hne : w2.heap.size ≠ w.heap.size := by omega
  have hnl : w.heap.size ≤ w2.heap.size := by omega
  generalize (w2.alloc (.cells Z 73)).setRow w2.heap.size Y = W3 at *
  generalize w2.heap.size = N2 at *
  have HS := Lib.hid (And.intro hr3 (And.intro hq3 (And.intro hbw hne)))
  have HNL := Lib.hid hnl
  have c1 : W3.cell? ⟨N2, 1, none⟩ = some (.int .u64 (mb : Int)) := by rw [cell_of_row _ _ 1 _ _ _ hr3, HY.out]; rfl
  have f1 := frozen_of_row _ _ 1 _ _ hr3
  clear hr3 hq3 hbw hne hnl hs2 l1 hx3 hb3 hb2 HC HBL HW
  by_cases h0 : 0 ≤ me
  · by_cases h1 : me < 64
    · obtain ⟨q, rfl⟩ := Int.eq_ofNat_of_zero_le h0
      have d0 : decide (0 ≤ (q : Int)) = true := by simp
      have d1 : decide ((q : Int) < 64) = true := by simpa using h1
      have h1' : (q : Int) < 64 := h1
      go_upto_region 3 with (fail)
      refine wp_region_bel_tail 5 (by kernel_rfl) (by kernel_rfl) ?_
      simp only [List.take_succ_cons, List.take_zero, List.drop_succ_cons, List.drop_zero]
      have b1 : ∀ y : Bel W3, y.val.cell? ⟨N2, 1, none⟩ = some (.int .u64 (mb : Int)) := Bel.cell c1 (Array.getElem?_eq_some_iff.1 HS.out.1).1
      repeat (go_big_quiet_step ((fail)))
      refine wpQuiet_nil ?_
      intro w3 hw3
      have hb3 := bel_out hw3
      have hor : bits .or .u64 (mb : Int) (IntKind.u64.wrap (2 ^ q)) = ((withS mb (q : Int) : Nat) : Int) := by
        have hq : q < 64 := by omega
        have hp : 2 ^ q < 18446744073709551616 := Nat.pow_lt_pow_right (a := 2) (by decide) (show q < 64 from hq)
        have e1 : IntKind.u64.wrap ((2 : Int) ^ q) = ((2 ^ q : Nat) : Int) := by
          rw [IntKind.wrap_u64, show ((2 : Int) ^ q) = ((2 ^ q : Nat) : Int) by simp]
          exact Int.emod_eq_of_lt (Int.natCast_nonneg _) (Int.ofNat_lt.2 hp)
        rw [e1, bits_or_u64_nat mb _ HM.out hp]
        unfold withS oneS
        rw [if_pos ⟨h0, h1⟩, Int.toNat_natCast]
      have e3 := setCell_block ((hb3.block _ (Array.getElem?_eq_some_iff.1 HS.out.1).1).trans HS.out.1) 1 (.int .u64 ((withS mb (q : Int) : Nat) : Int))
      obtain ⟨Y2, hY2⟩ : ∃ Y2, Y2 = rfC (ro0 (q : Int) mb) (.slice none 0 0) (.slice none 0 0) := ⟨_, rfl⟩
      have e4 : Y.setIfInBounds 1 (.int .u64 ((withS mb (q : Int) : Nat) : Int)) = Y2 := by rw [HY.out, rf_setMb, hY2]; rfl
      rw [e4] at e3
      have hz3 := (hb3.block _ (Array.getElem?_eq_some_iff.1 HS.out.2.1).1).trans HS.out.2.1
      have HE := Lib.hid (show (w3.setCell ⟨N2, 1, none⟩ (.int .u64 ((withS mb (q : Int) : Nat) : Int))).heap[N2]? = some (.cells Y2 73 (0, 0)) ∧ (w3.setCell ⟨N2, 1, none⟩ (.int .u64 ((withS mb (q : Int) : Nat) : Int))).heap[w.heap.size]? = some (.cells Z 73 (0, 0)) ∧ Below w.heap.size w (w3.setCell ⟨N2, 1, none⟩ (.int .u64 ((withS mb (q : Int) : Nat) : Int))) ∧ (Tryd.prog.info? 73).map (·.size) = some Y2.size ∧ Z.size = Y2.size ∧ Y2.all (·.oneCell') = true ∧ Y2 = rfC (ro0 (q : Int) mb) (.slice none 0 0) (.slice none 0 0) from ⟨e3, (Below.heap_setCell _ _ _ _ (Ne.symm HS.out.2.2.2)).trans hz3, bs (bt HS.out.2.2.1 hb3) HNL.out _, by rw [hY2]; exact rfSize, by rw [HZS.out, hY2, rfC_size], by rw [hY2]; exact rfC_one _ _ _ rfl rfl, hY2⟩)
      have k1 : w3.cell? ⟨N2, 1, none⟩ = some (.int .u64 (mb : Int)) := by obtain ⟨y, rfl⟩ := hw3; exact b1 y
      have k2 := frozen_of_row _ _ 1 _ _ ((hb3.block _ (Array.getElem?_eq_some_iff.1 HS.out.1).1).trans HS.out.1)
      rw [← hor] at HE
      clear hw3 hb3 hor e3 e4 hz3 hY2 b1 c1 f1 hYs hYZ hY1 HS HY HZS HM h0 h1 h1'
      go_wp2_with (first
        | (with_reducible refine wpList_load_row rfl 73 (.tmp 5) rfl N2 rfl 73 Y2 (0, 0) _ HE.out.1 Tryd.underlying73 rfl HE.out.2.2.2.1 ?_)
        | (with_reducible refine wpList_store_row rfl 73 (.tmp 4) (.tmp 24) rfl w.heap.size Y2 rfl rfl 73 _ HE.out.2.1 HE.out.2.2.2.1 HE.out.2.2.2.2.1 HE.out.2.2.2.2.2.1 ?_)
        | fail)
      exact bodyPost_ret (results_cell_row Tryd.results24 _ _ w.heap.size 73 Y2 (0, 0) _ rfl (setRow_heap _ _ _ _ _ _ HE.out.2.1) Tryd.underlying73 rfl HE.out.2.2.2.1) rfl ⟨by rw [HE.out.2.2.2.2.2.2], bsr' HE.out.2.2.1 (Nat.le_refl _) Y2⟩
    · have d0 : decide (0 ≤ me) = true := by simpa using h0
      have d1 : decide (me < 64) = false := by simpa using h1
      obtain ⟨Y2, hYY⟩ : ∃ Y2, Y2 = Y := ⟨_, rfl⟩
      have HE := Lib.hid (show W3.heap[N2]? = some (.cells Y 73 (0, 0)) ∧ W3.heap[w.heap.size]? = some (.cells Z 73 (0, 0)) ∧ Below w.heap.size w W3 ∧ (Tryd.prog.info? 73).map (·.size) = some Y.size ∧ Z.size = Y.size ∧ Y.all (·.oneCell') = true ∧ Y = rfC (ro0 me mb) (.slice none 0 0) (.slice none 0 0) from ⟨HS.out.1, HS.out.2.1, HS.out.2.2.1, hYs, hYZ, hY1, by rw [HY.out]; unfold roB ro0 withS oneS; rw [if_neg (fun h => h1 h.2), Nat.or_zero]⟩)
      clear hYs hYZ hY1 c1 f1 HS HY HZS HM h0 h1
      rw [← hYY] at HE
      clear hYY
      go_wp2_with (first
        | (with_reducible refine wpList_load_row rfl 73 (.tmp 5) rfl N2 rfl 73 Y2 (0, 0) _ HE.out.1 Tryd.underlying73 rfl HE.out.2.2.2.1 ?_)
        | (with_reducible refine wpList_store_row rfl 73 (.tmp 4) (.tmp 24) rfl w.heap.size Y2 rfl rfl 73 _ HE.out.2.1 HE.out.2.2.2.1 HE.out.2.2.2.2.1 HE.out.2.2.2.2.2.1 ?_)
        | fail)
      exact bodyPost_ret (results_cell_row Tryd.results24 _ _ w.heap.size 73 Y2 (0, 0) _ rfl (setRow_heap _ _ _ _ _ _ HE.out.2.1) Tryd.underlying73 rfl HE.out.2.2.2.1) rfl ⟨by rw [HE.out.2.2.2.2.2.2], bsr' HE.out.2.2.1 (Nat.le_refl _) Y2⟩
  · have d0 : decide (0 ≤ me) = false := by simpa using h0
    obtain ⟨Y2, hYY⟩ : ∃ Y2, Y2 = Y := ⟨_, rfl⟩
    have HE := Lib.hid (show W3.heap[N2]? = some (.cells Y 73 (0, 0)) ∧ W3.heap[w.heap.size]? = some (.cells Z 73 (0, 0)) ∧ Below w.heap.size w W3 ∧ (Tryd.prog.info? 73).map (·.size) = some Y.size ∧ Z.size = Y.size ∧ Y.all (·.oneCell') = true ∧ Y = rfC (ro0 me mb) (.slice none 0 0) (.slice none 0 0) from ⟨HS.out.1, HS.out.2.1, HS.out.2.2.1, hYs, hYZ, hY1, by rw [HY.out]; unfold roB ro0 withS oneS; rw [if_neg (fun h => h0 h.1), Nat.or_zero]⟩)
    clear hYs hYZ hY1 c1 f1 HS HY HZS HM h0
    rw [← hYY] at HE
    clear hYY
    go_wp2_with (first
      | (with_reducible refine wpList_load_row rfl 73 (.tmp 5) rfl N2 rfl 73 Y2 (0, 0) _ HE.out.1 Tryd.underlying73 rfl HE.out.2.2.2.1 ?_)
      | (with_reducible refine wpList_store_row rfl 73 (.tmp 4) (.tmp 24) rfl w.heap.size Y2 rfl rfl 73 _ HE.out.2.1 HE.out.2.2.2.1 HE.out.2.2.2.2.1 HE.out.2.2.2.2.2.1 ?_)
      | fail)
    exact bodyPost_ret (results_cell_row Tryd.results24 _ _ w.heap.size 73 Y2 (0, 0) _ rfl (setRow_heap _ _ _ _ _ _ HE.out.2.1) Tryd.underlying73 rfl HE.out.2.2.2.1) rfl ⟨by rw [HE.out.2.2.2.2.2.2], bsr' HE.out.2.2.1 (Nat.le_refl _) Y2⟩
end Go.Proofs.YtgjlcjbmcnofiaaDoor
