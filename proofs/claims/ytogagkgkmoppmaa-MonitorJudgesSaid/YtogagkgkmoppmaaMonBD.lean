/-
  Sets of processes: what bit, Has, But, In return; two rows of numbers.
  Conditions: those that each theorem names.
-/
import Derived.Test.YtogagkgkmoppmaaMonA
namespace Go.Proofs.Ytogagkgkmoppmaa
set_option linter.unusedVariables false
set_option linter.unusedSimpArgs false
open Go.RowKit
/-- the set of one process -/
def bitN (p : Int) : Nat := if 0 ≤ p ∧ p < 64 then 2 ^ p.toNat else 0
theorem setBit_any (p : Int) (w : World) : Calls Try.prog 49 #[.int .i64 p] w fun e w' => e = .returned (.int .u64 (bitN p : Int)) ∧ w = w' := by
  unfold bitN
  by_cases h1 : p < 0
  · have d1 : decide (p < 0) = true := by simpa using h1
    rw [if_neg (by omega)]
    go_enter Try.func49, Try.ntmps49
    go_wp2
    go_ret
    exact ⟨rfl, rfl⟩
  · by_cases h2 : p < 64
    · have d1 : decide (p < 0) = false := by simpa using h1
      have d2 : decide (64 ≤ p) = false := by simpa using h2
      rw [if_pos (by omega)]
      obtain ⟨n, rfl⟩ : ∃ n : Nat, p = (n : Int) := ⟨p.toNat, by omega⟩
      have hn : n < 64 := by omega
      have hp : 2 ^ n ≤ 2 ^ 63 := Nat.pow_le_pow_right (by omega) (by omega)
      have hw : IntKind.u64.wrap (2 ^ n) = ((2 ^ n : Nat) : Int) := by
        rw [IntKind.wrap_u64]
        have e1 : ((2 : Int) ^ n) = ((2 ^ n : Nat) : Int) := by simp
        rw [e1]
        generalize 2 ^ n = m at *
        omega
      show Calls Try.prog 49 #[.int .i64 (n : Int)] w fun e w' => e = .returned (.int .u64 ((2 ^ n : Nat) : Int)) ∧ w = w'
      generalize hm : ((2 ^ n : Nat) : Int) = m at hw ⊢
      clear hp hm
      go_enter Try.func49, Try.ntmps49
      go_wp2
      go_ret
      exact ⟨rfl, rfl⟩
    · have d1 : decide (p < 0) = false := by simpa using h1
      have d2 : decide (64 ≤ p) = true := by simp; omega
      rw [if_neg (by omega)]
      go_enter Try.func49, Try.ntmps49
      go_wp2
      go_ret
      exact ⟨rfl, rfl⟩
/-- does a set have a process? is it within another one? -/
def hasB (s : Nat) (p : Int) : Bool := bits .and .u64 (s : Int) (bitN p : Int) != 0
def inB (s t : Nat) : Bool := bits .andNot .u64 (s : Int) (t : Int) == 0
theorem setHas_any (s : Nat) (p : Int) (w : World) : Calls Try.prog 30 #[.int .u64 (s : Int), .int .i64 p] w fun e w' => e = .returned (.bool (hasB s p)) ∧ w = w' := by
  go_enter Try.func30, Try.ntmps30
  go_wp2_with fail
  refine (setBit_any p w).mono ?_
  rintro e w' ⟨rfl, rfl⟩
  go_wp2_with fail
  go_ret
  exact ⟨rfl, rfl⟩
theorem setIn_any (s t : Nat) (w : World) : Calls Try.prog 32 #[.int .u64 (s : Int), .int .u64 (t : Int)] w fun e w' => e = .returned (.bool (inB s t)) ∧ w = w' := by
  go_enter Try.func32, Try.ntmps32
  go_wp2
  go_ret
  exact ⟨rfl, rfl⟩
/-- a row of numbers that can be read -/
def RdU (w : World) (ad : Option Addr) (ds : List Nat) : Prop := ∀ i (h : i < ds.length), ∃ B O, ad = some ⟨B, O, none⟩ ∧ B < w.heap.size ∧ w.cell? ⟨B, O + i, none⟩ = some (.int .u32 (ds[i] : Int))
theorem RdU.below {w w' : World} {ad : Option Addr} {ds : List Nat} (h : RdU w ad ds) (hb : Below w.heap.size w w') : RdU w' ad ds := fun i hi => by
  obtain ⟨B, O, e, hB, hc⟩ := h i hi
  exact ⟨B, O, e, Nat.lt_of_lt_of_le hB hb.size, (hb.cell (p := ⟨B, O + i, none⟩) hB).trans hc⟩
set_option maxHeartbeats 4000000 in
theorem eqU_any (aa bb : Option Addr) (ac bc : Nat) (xs ys : List Nat) (w : World) (hx : RdU w aa xs) (hy : RdU w bb ys) (hxl : xs.length ≤ 9223372036854775807) (hyl : ys.length ≤ 9223372036854775807) :
    Calls Try.prog 54 #[.slice aa xs.length ac, .slice bb ys.length bc] w fun e w' => e = .returned (.bool (decide (xs = ys))) ∧ Below w.heap.size w w' := by
  obtain ⟨R, hR⟩ : ∃ R, R = decide (xs = ys) := ⟨_, rfl⟩
  rw [← hR]
  have HA := Lib.hid hx
  have HB := Lib.hid hy
  have HR := Lib.hid hR
  clear hx hy hR
  by_cases e4 : xs.length = ys.length
  · have d4 : ((xs.length : Int) == (ys.length : Int)) = true := by simp; omega
    have d4' : ((xs.length : Int) != (ys.length : Int)) = false := by simp; omega
    have f4 : xs.length ≤ ys.length := by omega
    have f4' : ys.length ≤ xs.length := by omega
    clear e4
    go_enter Try.func54, Try.ntmps54
    go_wp2
    go_loopw [13] (fun i wr => ∃ k : Nat, k ≤ xs.length ∧ i = .int .i64 (k : Int) ∧ Hid (xs.take k = ys.take k) ∧ Below w.heap.size w wr) (fun i _ => xs.length - (intOf i).toNat)
    case atStart => exact ⟨0, by omega, rfl, rfl, br _⟩
    case round =>
      obtain ⟨k, hk, rfl, HT, hbr⟩ := hrel
      have HBW := Lib.hid hbr
      by_cases hlt : k < xs.length
      · have hd : decide ((k : Int) < (xs.length : Int)) = true := by simpa using hlt
        have hlt2 : k < ys.length := by omega
        have hi1 : (k : Int) < (xs.length : Int) := by omega
        have hi2 : (k : Int) < (ys.length : Int) := by omega
        obtain ⟨B, O, rfl, hB, hc⟩ := HA.out k hlt
        obtain ⟨B', O', rfl, hB', hc'⟩ := HB.out k hlt2
        have y0 := (hbr.cell (p := ⟨B, O + k, none⟩) hB).trans hc
        have y1 := (hbr.cell (p := ⟨B', O' + k, none⟩) hB').trans hc'
        have ht := Lib.hid (And.intro (List.take_succ_eq_append_getElem hlt) (List.take_succ_eq_append_getElem hlt2))
        clear hc hc' hbr
        by_cases he : xs[k] = ys[k]
        · have g1 : ((xs[k] : Int) == (ys[k] : Int)) = true := by simp; omega
          have g2 : ((xs[k] : Int) != (ys[k] : Int)) = false := by simp; omega
          have HE := Lib.hid he
          clear he
          go_wp2
          go_quiet (fail)
          go_wp2
          exact ⟨⟨k + 1, by omega, by go_num, (show xs.take (k + 1) = ys.take (k + 1) from by rw [ht.out.1, ht.out.2, HT.out, HE.out]), bn HBW.out _⟩, by simp [intOf]; omega⟩
        · have g1 : ((xs[k] : Int) == (ys[k] : Int)) = false := by simp; omega
          have g2 : ((xs[k] : Int) != (ys[k] : Int)) = true := by simp; omega
          have hRf : R = false := by
            rw [HR.out]
            refine decide_eq_false fun h => he ?_
            subst h
            rfl
          subst hRf
          clear he
          go_wp2
          go_quiet (fail)
          go_wp2
          go_ret
          exact ⟨rfl, bn HBW.out _⟩
      · have hd : decide ((k : Int) < (xs.length : Int)) = false := by simpa using hlt
        have hRt : R = true := by
          have hds := HT.out
          rw [List.take_of_length_le (by omega), List.take_of_length_le (by omega)] at hds
          rw [HR.out]
          simp [hds]
        subst hRt
        go_wp2
        go_ret
        exact ⟨rfl, HBW.out⟩
  · have d4 : ((xs.length : Int) == (ys.length : Int)) = false := by simp; omega
    have d4' : ((xs.length : Int) != (ys.length : Int)) = true := by simp; omega
    have hRf : R = false := by rw [HR.out]; exact decide_eq_false fun h => e4 (by rw [h])
    subst hRf
    go_enter Try.func54, Try.ntmps54
    go_wp2
    go_ret
    exact ⟨rfl, br _⟩
end Go.Proofs.Ytogagkgkmoppmaa
namespace Go.Proofs.Ytogagkgkmoppmaa
set_option linter.unusedVariables false
set_option linter.unusedSimpArgs false
open Go.RowKit
/-- a message that can be read -/
structure MsgR (w : World) (m : Msg) : Prop where
  ds : RdU w m.da m.ds
  len : m.ds.length ≤ 9223372036854775807
theorem MsgR.below {w w' : World} {m : Msg} (h : MsgR w m) (hb : Below w.heap.size w w') : MsgR w' m := ⟨h.ds.below hb, h.len⟩
set_option maxHeartbeats 8000000 in
theorem same_any (a b : Msg) (w : World) (ha : MsgR w a) (hb : MsgR w b) :
    Calls Try.prog 34 #[.agg (msgA a), .agg (msgA b)] w fun e w' => e = .returned (.bool (sameM a b)) ∧ Below w.heap.size w w' := by
  obtain ⟨ha, hal⟩ := ha
  obtain ⟨hb, hbl⟩ := hb
  obtain ⟨R, hR⟩ : ∃ R, R = sameM a b := ⟨_, rfl⟩
  rw [← hR]
  unfold sameM at hR
  unfold msgA
  obtain ⟨a0, a1, a2, a3, xs, a5, aa, ac⟩ := a
  obtain ⟨b0, b1, b2, b3, ys, b5, bb, bc⟩ := b
  simp only at ha hb hal hbl hR ⊢
  have hbel : Below w.heap.size w ((w.alloc (.cells #[.int .i64 a0, .int .u32 (a1 : Int), .int .u64 (a2 : Int), .int .i64 a3, .slice aa xs.length ac, .string a5] 34)).alloc (.cells #[.int .i64 b0, .int .u32 (b1 : Int), .int .u64 (b2 : Int), .int .i64 b3, .slice bb ys.length bc, .string b5] 34)) := ba (ba (br w) _) _
  have HW := Lib.hid hbel
  have HR := Lib.hid hR
  have HE := Lib.hid (eqU_any aa bb ac bc xs ys _ (ha.below hbel) (hb.below hbel) hal hbl)
  have HL := Lib.hid (show R = decide (a0 = b0 ∧ a1 = b1 ∧ a2 = b2 ∧ a3 = b3 ∧ a5 = b5 ∧ xs = ys) from hR)
  clear ha hb hal hbl hbel hR
  by_cases e0 : a0 = b0
  · subst e0
    by_cases e1 : a1 = b1
    · subst e1
      by_cases e2 : a2 = b2
      · subst e2
        by_cases e3 : a3 = b3
        · subst e3
          by_cases e5 : a5 = b5
          · subst e5
            have hRt : R = decide (xs = ys) := by rw [HR.out]; simp
            clear HR HL
            rw [← hRt] at HE
            clear hRt
            have hs : (a5.toList == a5.toList) = true := by simp
            go_enter Try.func34, Try.ntmps34
            go_wp2_with fail
            refine HE.out.mono ?_
            rintro e w1 ⟨rfl, hb1⟩
            have hb2 := bt HW.out hb1
            clear hb1 HE
            go_wp2_with fail
            go_ret
            exact ⟨rfl, hb2⟩
          · have d5 : (a5.toList == b5.toList) = false := (Lib.bytes_beq_false_iff _ _).2 e5
            have hRf : R = false := by rw [HR.out]; exact decide_eq_false fun h => e5 h.2.2.2.2.1
            subst hRf
            clear HE
            go_enter Try.func34, Try.ntmps34
            go_wp2
            go_ret
            exact ⟨rfl, HW.out⟩
        · have d5 : (a3 == b3) = false := by simpa using e3
          have hRf : R = false := by rw [HR.out]; exact decide_eq_false fun h => e3 h.2.2.2.1
          subst hRf
          clear HE
          go_enter Try.func34, Try.ntmps34
          go_wp2
          go_ret
          exact ⟨rfl, HW.out⟩
      · have d5 : ((a2 : Int) == (b2 : Int)) = false := by simp; omega
        have hRf : R = false := by rw [HR.out]; exact decide_eq_false fun h => e2 h.2.2.1
        subst hRf
        clear HE
        go_enter Try.func34, Try.ntmps34
        go_wp2
        go_ret
        exact ⟨rfl, HW.out⟩
    · have d5 : ((a1 : Int) == (b1 : Int)) = false := by simp; omega
      have hRf : R = false := by rw [HR.out]; exact decide_eq_false fun h => e1 h.2.1
      subst hRf
      clear HE
      go_enter Try.func34, Try.ntmps34
      go_wp2
      go_ret
      exact ⟨rfl, HW.out⟩
  · have d5 : (a0 == b0) = false := by simpa using e0
    have hRf : R = false := by rw [HR.out]; exact decide_eq_false fun h => e0 h.1
    subst hRf
    clear HE
    go_enter Try.func34, Try.ntmps34
    go_wp2
    go_ret
    exact ⟨rfl, HW.out⟩
end Go.Proofs.Ytogagkgkmoppmaa
namespace Go.Proofs.Ytogagkgkmoppmaa
set_option linter.unusedVariables false
set_option linter.unusedSimpArgs false
open Go.RowKit
theorem kept_setRow' (w : World) (M : Nat) (cs : Array Value) : Kept (fun b => b = M) w (w.setRow M cs) := ⟨rfl, rfl, rfl, by rw [size_setRow]; exact Nat.le_refl _, fun i _ hs => setRow_other _ _ _ _ hs⟩
/-- a row of messages that can be read -/
def RdM (w : World) (ad : Option Addr) (l : List Msg) : Prop := l.length ≤ 9223372036854775807 ∧ ∀ i (h : i < l.length), MsgR w l[i] ∧ ∃ g o, ad = some ⟨g, o, none⟩ ∧ g < w.heap.size ∧ w.rangeAt g (o + i * 6) (msgA l[i]).toList
theorem RdM.below {w w' : World} {ad : Option Addr} {l : List Msg} (h : RdM w ad l) (hb : Below w.heap.size w w') : RdM w' ad l := ⟨h.1, fun i hi => by
  obtain ⟨h1, g, o, e, hg, hr⟩ := h.2 i hi
  exact ⟨h1.below hb, g, o, e, Nat.lt_of_lt_of_le hg hb.size, fun j u hu => (hb.cell (p := ⟨g, o + i * 6 + j, none⟩) hg).trans (hr j u hu)⟩⟩
set_option maxHeartbeats 4000000 in
theorem owesFn_any (x y : Msg) (X : Nat) (w : World) (hX : w.heap[X]? = some (.cells (msgA x) 34 (0, 0))) (hx : MsgR w x) (hy : MsgR w y) :
    Calls Try.prog 57 #[.agg (msgA y), .pointer (some ⟨X, 0, none⟩)] w fun e w' => e = .returned (.bool (sameM x y)) ∧ Below w.heap.size w w' := by
  obtain ⟨N, hN⟩ : ∃ N, N = w.heap.size := ⟨_, rfl⟩
  obtain ⟨W, hW⟩ : ∃ W, W = w.alloc (.cells (msgA y) 34) := ⟨_, rfl⟩
  have hbA := ba (br w) (.cells (msgA y) 34)
  have hxA := heap_alloc_new w (.cells (msgA y) 34)
  rw [← hW] at hxA hbA
  rw [← hN] at hxA
  have hXW := (hbA.block _ (Array.getElem?_eq_some_iff.1 hX).1).trans hX
  have HS := Lib.hid (same_any x y W (hx.below hbA) (hy.below hbA))
  obtain ⟨CX, hCX⟩ : ∃ C, C = msgA x := ⟨_, rfl⟩
  obtain ⟨CY, hCY⟩ : ∃ C, C = msgA y := ⟨_, rfl⟩
  have z1 : CX.size = 6 := by rw [hCX]; rfl
  have z2 : CY.size = 6 := by rw [hCY]; rfl
  rw [← hCX] at hXW HS
  rw [← hCY] at hxA HS
  have HH := Lib.hid (And.intro hXW (And.intro hxA (And.intro hbA (And.intro z1 z2))))
  have hma : msgA y = #[.int .i64 y.frm, .int .u32 (y.seq : Int), .int .u64 (y.stamp : Int), .int .i64 y.service, .slice y.da y.ds.length y.dc, .string y.pay] := rfl
  rw [hma] at hW ⊢
  clear hX hx hy hXW hxA hbA hCX hCY z1 z2
  go_enter Try.func57, Try.ntmps57
  go_upto_region 1 with (fail)
  rw [← hW, ← hN]
  clear hW hN hma
  go_wp2_with (first
    | (refine wpList_load_row rfl 34 (.tmp 1) rfl X rfl 34 CX (0, 0) _ HH.out.1 Try.underlying34 rfl (by rw [HH.out.2.2.2.1]; kernel_rfl) ?_)
    | (refine wpList_load_row rfl 34 (.tmp 2) rfl N rfl 34 CY (0, 0) _ HH.out.2.1 Try.underlying34 rfl (by rw [HH.out.2.2.2.2]; kernel_rfl) ?_))
  refine HS.out.mono ?_
  rintro e w1 ⟨rfl, hb1⟩
  have hb2 := bt HH.out.2.2.1 hb1
  clear hb1 HS
  go_wp2_with fail
  go_ret
  exact ⟨rfl, hb2⟩
def idxM (x : Msg) (l : List Msg) : Int := match l.findIdx? (sameM x) with
  | some i => (i : Int)
  | none => -1
theorem idxM_none {x : Msg} {l : List Msg} (h : ∀ i (hi : i < l.length), sameM x l[i] = false) : idxM x l = -1 := by
  unfold idxM
  rw [List.findIdx?_eq_none_iff.2 (fun y hy => by obtain ⟨i, hi, rfl⟩ := List.getElem_of_mem hy; simpa using h i hi)]
theorem idxM_some {x : Msg} {l : List Msg} {k : Nat} (hk : k < l.length) (h1 : sameM x l[k] = true) (h : ∀ i (hi : i < k), sameM x (l[i]'(by omega)) = false) : idxM x l = (k : Int) := by
  unfold idxM
  have : l.findIdx? (sameM x) = some k := by
    rw [List.findIdx?_eq_some_iff_getElem]
    exact ⟨hk, h1, fun j hj => by rw [h j hj]; exact Bool.noConfusion⟩
  rw [this]
set_option maxHeartbeats 4000000 in
theorem idxFn_any (x : Msg) (l : List Msg) (ad : Option Addr) (cap X : Nat) (w : World) (hX : w.heap[X]? = some (.cells (msgA x) 34 (0, 0))) (hx : MsgR w x) (hl : RdM w ad l) :
    Calls Try.prog 63 #[.slice ad l.length cap, .func (.func 57) #[] #[.pointer (some ⟨X, 0, none⟩)]] w fun e w' => e = .returned (.int .i64 (idxM x l)) ∧ Below w.heap.size w w' := by
  obtain ⟨r, hr⟩ : ∃ r, r = idxM x l := ⟨_, rfl⟩
  obtain ⟨n, hn⟩ : ∃ n, n = l.length := ⟨_, rfl⟩
  rw [← hr, ← hn]
  have HL := Lib.hid (And.intro hl (And.intro hn hr))
  have HX := Lib.hid (And.intro hX hx)
  have hn9 : n ≤ 9223372036854775807 := by rw [hn]; exact hl.1
  clear hl hn hr hX hx
  go_enter Try.func63, Try.ntmps63
  go_wp2_with fail
  go_loopw [8] (fun i wr => ∃ k : Nat, k ≤ n ∧ i = .int .i64 (k : Int) ∧ Hid (∀ i (hi : i < l.length), i < k → sameM x l[i] = false) ∧ Below w.heap.size w wr) (fun i _ => n - (intOf i).toNat)
  case atStart => exact ⟨0, by omega, rfl, fun i hi h => absurd h (by omega), br _⟩
  case round =>
    obtain ⟨k, hk, rfl, HT, hbr⟩ := hrel
    have HBW := Lib.hid hbr
    by_cases hlt : k < n
    · have hd : decide ((k : Int) < (n : Int)) = true := by simpa using hlt
      have hi1 : (k : Int) < (n : Int) := by omega
      have hkl : k < l.length := by rw [← HL.out.2.1]; exact hlt
      obtain ⟨hm, g, o, rfl, hg, hrg⟩ := (HL.out.1.below hbr).2 k hkl
      have HS := Lib.hid (owesFn_any x l[k] X wr ((hbr.block _ (Array.getElem?_eq_some_iff.1 HX.out.1).1).trans HX.out.1) (HX.out.2.below hbr) hm)
      obtain ⟨y, hy⟩ : ∃ y, y = l[k] := ⟨_, rfl⟩
      rw [← hy] at HS hrg
      obtain ⟨cs, hcs⟩ : ∃ cs, cs = msgA y := ⟨_, rfl⟩
      have z1 : cs.size = 6 := by rw [hcs]; rfl
      rw [← hcs] at HS hrg
      have HG := Lib.hid (And.intro hrg (And.intro z1 hy))
      have hcl : cs.toList.toArray = cs := by simp
      clear hbr hrg hm z1 hcs hy
      go_upto_region 4 with (fail)
      go_wp2_with (refine wpList_load_mid rfl 34 (.tmp 14) rfl g (o + k * 6) rfl cs.toList _ HG.out.1 Try.underlying34 rfl (by rw [Array.length_toList, HG.out.2.1]; kernel_rfl) ?_)
      cases hs : sameM x l[k]
      · rw [← HG.out.2.2] at hs
        rw [hs] at HS
        refine HS.out.mono ?_
        rintro e w1 ⟨rfl, hb1⟩
        have HE := Lib.hid (And.intro hlt (And.intro (show Hid (∀ i (hi : i < l.length), i < k + 1 → sameM x l[i] = false) from fun i hi h => by
          by_cases hik : i = k
          · subst hik; rw [← HG.out.2.2]; exact hs
          · exact HT.out i hi (by omega)) (bt HBW.out hb1)))
        clear hb1 hs HS
        go_wp2_with fail
        exact ⟨⟨k + 1, HE.out.1, by go_num, HE.out.2⟩, by have := HE.out.1; simp [intOf]; omega⟩
      · have hrk : r = (k : Int) := by rw [HL.out.2.2]; exact idxM_some hkl hs (fun i hi => HT.out i (by omega) hi)
        rw [← HG.out.2.2] at hs
        rw [hs] at HS
        refine HS.out.mono ?_
        rintro e w1 ⟨rfl, hb1⟩
        have hb2 := bt HBW.out hb1
        clear hb1 hs HS
        subst hrk
        go_wp2_with fail
        go_ret
        exact ⟨rfl, hb2⟩
    · have hd : decide ((k : Int) < (n : Int)) = false := by simpa using hlt
      have hrt : r = -1 := by
        rw [HL.out.2.2]
        exact idxM_none fun i hi => HT.out i hi (by have := HL.out.2.1; omega)
      subst hrt
      go_wp2
      go_ret
      exact ⟨rfl, HBW.out⟩
theorem idxM_any (x : Msg) (l : List Msg) : decide (0 ≤ idxM x l) = l.any (sameM x) := by
  unfold idxM
  cases h : l.findIdx? (sameM x) with
  | none =>
    rw [List.findIdx?_eq_none_iff] at h
    have : l.any (sameM x) = false := by rw [List.any_eq_false]; intro y hy; rw [h y hy]; exact Bool.noConfusion
    rw [this]
    decide
  | some i =>
    rw [List.findIdx?_eq_some_iff_getElem] at h
    obtain ⟨hi, h1, _⟩ := h
    have : l.any (sameM x) = true := by rw [List.any_eq_true]; exact ⟨_, List.getElem_mem hi, h1⟩
    rw [this]
    simp
theorem containsFn_any (x : Msg) (l : List Msg) (ad : Option Addr) (cap X : Nat) (w : World) (hX : w.heap[X]? = some (.cells (msgA x) 34 (0, 0))) (hx : MsgR w x) (hl : RdM w ad l) :
    Calls Try.prog 56 #[.slice ad l.length cap, .func (.func 57) #[] #[.pointer (some ⟨X, 0, none⟩)]] w fun e w' => e = .returned (.bool (l.any (sameM x))) ∧ Below w.heap.size w w' := by
  have HI := Lib.hid (idxFn_any x l ad cap X w hX hx hl)
  have ha := idxM_any x l
  generalize l.length = n at *
  clear hX hx hl
  generalize idxM x l = r at *
  generalize l.any (sameM x) = b at *
  go_enter Try.func56, Try.ntmps56
  go_wp2_with fail
  refine HI.out.mono ?_
  rintro e w1 ⟨rfl, hb1⟩
  go_wp2_with fail
  go_ret
  exact ⟨rfl, hb1⟩
/-- two rows of messages that read the same -/
def sameL : List Msg → List Msg → Bool
  | [], [] => true
  | a :: x, b :: y => sameM a b && sameL x y
  | _, _ => false
theorem sameL_len : ∀ {a b : List Msg}, a.length ≠ b.length → sameL a b = false
  | [], [], h => absurd rfl h
  | [], _ :: _, _ => rfl
  | _ :: _, [], _ => rfl
  | a :: x, b :: y, h => by
    show (sameM a b && sameL x y) = false
    rw [sameL_len (a := x) (b := y) (by simpa using h), Bool.and_false]
theorem sameL_at : ∀ {a b : List Msg} {k : Nat} (ha : k < a.length) (hb : k < b.length), sameM a[k] b[k] = false → sameL a b = false
  | [], _, k, ha, _, _ => by simp at ha
  | _ :: _, [], k, _, hb, _ => by simp at hb
  | a :: x, b :: y, 0, _, _, h => by
    show (sameM a b && sameL x y) = false
    rw [show sameM a b = false from h, Bool.false_and]
  | a :: x, b :: y, k + 1, ha, hb, h => by
    show (sameM a b && sameL x y) = false
    rw [sameL_at (a := x) (b := y) (k := k) (by simpa using ha) (by simpa using hb) (by simpa using h), Bool.and_false]
theorem sameL_all : ∀ {a b : List Msg}, a.length = b.length → (∀ i (ha : i < a.length) (hb : i < b.length), sameM a[i] b[i] = true) → sameL a b = true
  | [], [], _, _ => rfl
  | [], _ :: _, h, _ => by simp at h
  | _ :: _, [], h, _ => by simp at h
  | a :: x, b :: y, hl, h => by
    show (sameM a b && sameL x y) = true
    rw [sameL_all (a := x) (b := y) (by simpa using hl) (fun i h1 h2 => h (i + 1) (by simpa using h1) (by simpa using h2)), show sameM a b = true from h 0 (by simp) (by simp)]
    rfl
set_option maxRecDepth 100000 in
set_option maxHeartbeats 8000000 in
theorem eqFn_any (x y : List Msg) (xa ya : Option Addr) (xc yc : Nat) (w : World) (hx : RdM w xa x) (hy : RdM w ya y) :
    Calls Try.prog 46 #[.slice xa x.length xc, .slice ya y.length yc, .func (.func 34) #[] #[]] w fun e w' => e = .returned (.bool (sameL x y)) ∧ Below w.heap.size w w' := by
  obtain ⟨r, hr⟩ : ∃ r, r = sameL x y := ⟨_, rfl⟩
  obtain ⟨n, hn⟩ : ∃ n, n = x.length := ⟨_, rfl⟩
  obtain ⟨m, hm⟩ : ∃ m, m = y.length := ⟨_, rfl⟩
  rw [← hr, ← hn, ← hm]
  have HL := Lib.hid (And.intro hx (And.intro hy (And.intro hn (And.intro hm hr))))
  have hn9 : n ≤ 9223372036854775807 := by rw [hn]; exact hx.1
  by_cases hnm : n = m
  rotate_left
  · have d4 : ((n : Int) == (m : Int)) = false := by simp; omega
    have d4' : ((n : Int) != (m : Int)) = true := by simp; omega
    have hrf : r = false := by rw [hr]; exact sameL_len (by omega)
    subst hrf
    clear hx hy hn hm hr
    go_enter Try.func46, Try.ntmps46
    go_wp2
    go_ret
    exact ⟨rfl, br _⟩
  have HNM := Lib.hid hnm
  subst hnm
  clear hx hy hn hm hr
  go_enter Try.func46, Try.ntmps46
  go_wp2_with fail
  go_loopw [17] (fun i wr => ∃ k : Nat, k ≤ n ∧ i = .int .i64 (k : Int) ∧ Hid (∀ i (hi : i < x.length) (hj : i < y.length), i < k → sameM x[i] y[i] = true) ∧ Below w.heap.size w wr) (fun i _ => n - (intOf i).toNat)
  case atStart => exact ⟨0, by omega, rfl, fun i hi hj h => absurd h (by omega), br _⟩
  case round =>
    obtain ⟨k, hk, rfl, HT, hbr⟩ := hrel
    have HBW := Lib.hid hbr
    by_cases hlt : k < n
    · have hd : decide ((k : Int) < (n : Int)) = true := by simpa using hlt
      have hi1 : (k : Int) < (n : Int) := by omega
      have hkx : k < x.length := by rw [← HL.out.2.2.1]; exact hlt
      have hky : k < y.length := by rw [← HL.out.2.2.2.1]; exact hlt
      obtain ⟨hmx, g, o, rfl, hg, hrg⟩ := (HL.out.1.below hbr).2 k hkx
      obtain ⟨hmy, g2, o2, rfl, hg2, hrg2⟩ := (HL.out.2.1.below hbr).2 k hky
      obtain ⟨u, hu⟩ : ∃ u, u = x[k] := ⟨_, rfl⟩
      obtain ⟨v, hv⟩ : ∃ v, v = y[k] := ⟨_, rfl⟩
      rw [← hu] at hmx hrg
      rw [← hv] at hmy hrg2
      obtain ⟨cu, hcu⟩ : ∃ cs, cs = msgA u := ⟨_, rfl⟩
      obtain ⟨cv, hcv⟩ : ∃ cs, cs = msgA v := ⟨_, rfl⟩
      have z1 : cu.size = 6 := by rw [hcu]; rfl
      have z2 : cv.size = 6 := by rw [hcv]; rfl
      have p1 : cu.all (·.oneCell') = true := by rw [hcu]; simp [msgA, Value.oneCell']
      have p2 : cv.all (·.oneCell') = true := by rw [hcv]; simp [msgA, Value.oneCell']
      have hs := same_any u v
      rw [← hcu, ← hcv] at hs
      rw [← hcu] at hrg
      rw [← hcv] at hrg2
      have hc1 : cu.toList.toArray = cu := by simp
      have hc2 : cv.toList.toArray = cv := by simp
      obtain ⟨U, hU⟩ : ∃ U, U = wr.heap.size := ⟨_, rfl⟩
      have hz := heap_alloc_new wr (.cells #[.int .i64 0, .int .u32 0, .int .u64 0, .int .i64 0, .slice none 0 0, .string ⟨#[]⟩] 34)
      have hbz := ba (br wr) (.cells #[.int .i64 0, .int .u32 0, .int .u64 0, .int .i64 0, .slice none 0 0, .string ⟨#[]⟩] 34)
      rw [← hU] at hz
      obtain ⟨w2, hw2⟩ : ∃ w2, w2 = (wr.alloc (.cells #[.int .i64 0, .int .u32 0, .int .u64 0, .int .i64 0, .slice none 0 0, .string ⟨#[]⟩] 34)).setRow U cu := ⟨_, rfl⟩
      have hb2 : Below wr.heap.size wr w2 := by rw [hw2]; exact (kept_setRow' (wr.alloc (.cells #[.int .i64 0, .int .u32 0, .int .u64 0, .int .i64 0, .slice none 0 0, .string ⟨#[]⟩] 34)) U cu).out hbz hbz.size (fun k hk' e => by omega)
      have hx2 : w2.heap[U]? = some (.cells cu 34 (0, 0)) := by rw [hw2]; exact setRow_heap _ _ _ _ _ _ hz
      have HZ := Lib.hid (And.intro hz hU)
      obtain ⟨V, hV⟩ : ∃ V, V = w2.heap.size := ⟨_, rfl⟩
      have hz2 := heap_alloc_new w2 (.cells #[.int .i64 0, .int .u32 0, .int .u64 0, .int .i64 0, .slice none 0 0, .string ⟨#[]⟩] 34)
      have hbz2 := ba (br w2) (.cells #[.int .i64 0, .int .u32 0, .int .u64 0, .int .i64 0, .slice none 0 0, .string ⟨#[]⟩] 34)
      rw [← hV] at hz2
      obtain ⟨w3, hw3⟩ : ∃ w3, w3 = (w2.alloc (.cells #[.int .i64 0, .int .u32 0, .int .u64 0, .int .i64 0, .slice none 0 0, .string ⟨#[]⟩] 34)).setRow V cv := ⟨_, rfl⟩
      have hb3 : Below w2.heap.size w2 w3 := by rw [hw3]; exact (kept_setRow' (w2.alloc (.cells #[.int .i64 0, .int .u32 0, .int .u64 0, .int .i64 0, .slice none 0 0, .string ⟨#[]⟩] 34)) V cv).out hbz2 hbz2.size (fun k hk' e => by omega)
      have hx3 : w3.heap[V]? = some (.cells cv 34 (0, 0)) := by rw [hw3]; exact setRow_heap _ _ _ _ _ _ hz2
      have HZ2 := Lib.hid (And.intro hz2 hV)
      have HW3 := Lib.hid (And.intro hx3 (And.intro ((hb3.block _ (Array.getElem?_eq_some_iff.1 hx2).1).trans hx2) (bt HBW.out (bt hb2 hb3))))
      have hrg2' : w2.rangeAt g2 (o2 + k * 6) cv.toList := fun j u hu => (hb2.cell (p := ⟨g2, o2 + k * 6 + j, none⟩) hg2).trans (hrg2 j u hu)
      have HS := Lib.hid (hs w3 (hmx.below (bt hb2 hb3)) (hmy.below (bt hb2 hb3)))
      have HG := Lib.hid (And.intro hrg (And.intro hrg2' (And.intro z1 (And.intro z2 (And.intro p1 (And.intro p2 (And.intro hu hv)))))))
      clear hz hbz hb2 hx2 hU hz2 hbz2 hb3 hx3 hV hrg hrg2 hrg2' z1 z2 p1 p2 hu hv hmx hmy hs hbr hcu hcv
      go_upto_region 6 with (first
        | (refine wpList_load_mid rfl 34 (.tmp 20) rfl g (o + k * 6) rfl cu.toList _ HG.out.1 Try.underlying34 rfl (by rw [Array.length_toList, HG.out.2.2.1]; kernel_rfl) ?_)
        | (refine wpList_store_row rfl 34 (.tmp 8) (.tmp 21) rfl U cu (by rw [HZ.out.2]; rfl) (by rw [← hc1]; rfl) 34 _ HZ.out.1 (by rw [HG.out.2.2.1]; kernel_rfl) (by rw [HG.out.2.2.1]; rfl) HG.out.2.2.2.2.1 ?_))
      rw [← hw2, ← HZ.out.2]
      clear hw2
      go_upto_region 7 with (first
        | (refine wpList_load_mid rfl 34 (.tmp 24) rfl g2 (o2 + k * 6) rfl cv.toList _ HG.out.2.1 Try.underlying34 rfl (by rw [Array.length_toList, HG.out.2.2.2.1]; kernel_rfl) ?_)
        | (refine wpList_store_row rfl 34 (.tmp 9) (.tmp 25) rfl V cv (by rw [HZ2.out.2]; rfl) (by rw [← hc2]; rfl) 34 _ HZ2.out.1 (by rw [HG.out.2.2.2.1]; kernel_rfl) (by rw [HG.out.2.2.2.1]; rfl) HG.out.2.2.2.2.2.1 ?_))
      rw [← hw3, ← HZ2.out.2]
      clear hw3
      go_wp2_with (first
        | (refine wpList_load_row rfl 34 (.tmp 8) rfl U rfl 34 cu (0, 0) _ HW3.out.2.1 Try.underlying34 rfl (by rw [HG.out.2.2.1]; kernel_rfl) ?_)
        | (refine wpList_load_row rfl 34 (.tmp 9) rfl V rfl 34 cv (0, 0) _ HW3.out.1 Try.underlying34 rfl (by rw [HG.out.2.2.2.1]; kernel_rfl) ?_))
      cases hs : sameM u v
      · rw [hs] at HS
        have hrf : r = false := by rw [HL.out.2.2.2.2]; exact sameL_at hkx hky (by rw [← HG.out.2.2.2.2.2.2.1, ← HG.out.2.2.2.2.2.2.2]; exact hs)
        refine HS.out.mono ?_
        rintro e w4 ⟨rfl, hb4⟩
        have hb5 := bt HW3.out.2.2 hb4
        clear hb4 hs HS
        subst hrf
        go_wp2_with fail
        go_ret
        exact ⟨rfl, hb5⟩
      · rw [hs] at HS
        refine HS.out.mono ?_
        rintro e w4 ⟨rfl, hb4⟩
        have HE := Lib.hid (And.intro hlt (And.intro (show Hid (∀ i (hi : i < x.length) (hj : i < y.length), i < k + 1 → sameM x[i] y[i] = true) from fun i hi hj h => by
          by_cases hik : i = k
          · subst hik; rw [← HG.out.2.2.2.2.2.2.1, ← HG.out.2.2.2.2.2.2.2]; exact hs
          · exact HT.out i hi hj (by omega)) (bt HW3.out.2.2 hb4)))
        clear hb4 hs HS
        go_wp2_with fail
        exact ⟨⟨k + 1, HE.out.1, by go_num, HE.out.2⟩, by have := HE.out.1; simp [intOf]; omega⟩
    · have hd : decide ((k : Int) < (n : Int)) = false := by simpa using hlt
      have hrt : r = true := by
        rw [HL.out.2.2.2.2]
        exact sameL_all (by rw [← HL.out.2.2.1, ← HL.out.2.2.2.1]) fun i h1 h2 => HT.out i h1 h2 (by have := HL.out.2.2.1; omega)
      subst hrt
      go_wp2
      go_ret
      exact ⟨rfl, HBW.out⟩
end Go.Proofs.Ytogagkgkmoppmaa
