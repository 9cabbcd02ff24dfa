/-
  Sets of processes: what bit, Has, But, In return; two rows of numbers.
  Conditions: those that each theorem names.
-/
import Derived.Test.YtogagkgkmoppmaaGreatDoorMonA
import Derived.Lib.AppendZeros
import Derived.Lib.OwnKind
import Derived.Test.YtogagkgkmoppmaaGreatDoorBaseZs
namespace Go.Proofs.YtogagkgkmoppmaaGreatDoor
set_option linter.unusedVariables false
set_option linter.unusedSimpArgs false
open Go.RowKit
/-- the set of one process -/
def bitN (p : Int) : Nat := if 0 ≤ p ∧ p < 64 then 2 ^ p.toNat else 0
theorem setBit_any (p : Int) (w : World) : Calls Tryz.prog 63 #[.int .i64 p] w fun e w' => e = .returned (.int .u64 (bitN p : Int)) ∧ w = w' := by
  unfold bitN
  by_cases h1 : p < 0
  · have d1 : decide (p < 0) = true := by simpa using h1
    rw [if_neg (by omega)]
    go_enter Tryz.func63, Tryz.ntmps63
    go_wp2
    go_ret
    exact ⟨rfl, rfl⟩
  · by_cases h2 : p < 64
    · have d1 : decide (p < 0) = false := by simpa using h1
      have d2 : decide (64 ≤ p) = false := by simpa using h2
      rw [if_pos (by omega)]
      obtain ⟨n, rfl⟩ : ∃ n : Nat, p = (n : Int) := ⟨p.toNat, by omega⟩
      have hn : n < 64 := by omega
      have hp : 2 ^ n ≤ 2 ^ 63 := Nat.pow_le_pow_right (by omega) (by omega)
      have hw : IntKind.u64.wrap (2 ^ n) = ((2 ^ n : Nat) : Int) := by
        rw [IntKind.wrap_u64]
        have e1 : ((2 : Int) ^ n) = ((2 ^ n : Nat) : Int) := by simp
        rw [e1]
        generalize 2 ^ n = m at *
        omega
      show Calls Tryz.prog 63 #[.int .i64 (n : Int)] w fun e w' => e = .returned (.int .u64 ((2 ^ n : Nat) : Int)) ∧ w = w'
      generalize hm : ((2 ^ n : Nat) : Int) = m at hw ⊢
      clear hp hm
      go_enter Tryz.func63, Tryz.ntmps63
      go_wp2
      go_ret
      exact ⟨rfl, rfl⟩
    · have d1 : decide (p < 0) = false := by simpa using h1
      have d2 : decide (64 ≤ p) = true := by simp; omega
      rw [if_neg (by omega)]
      go_enter Tryz.func63, Tryz.ntmps63
      go_wp2
      go_ret
      exact ⟨rfl, rfl⟩
/-- does a set have a process? is it within another one? -/
def hasB (s : Nat) (p : Int) : Bool := bits .and .u64 (s : Int) (bitN p : Int) != 0
def inB (s t : Nat) : Bool := bits .andNot .u64 (s : Int) (t : Int) == 0
theorem setHas_any (s : Nat) (p : Int) (w : World) : Calls Tryz.prog 50 #[.int .u64 (s : Int), .int .i64 p] w fun e w' => e = .returned (.bool (hasB s p)) ∧ w = w' := by
  go_enter Tryz.func50, Tryz.ntmps50
  go_wp2_with fail
  refine (setBit_any p w).mono ?_
  rintro e w' ⟨rfl, rfl⟩
  go_wp2_with fail
  go_ret
  exact ⟨rfl, rfl⟩
theorem setIn_any (s t : Nat) (w : World) : Calls Tryz.prog 52 #[.int .u64 (s : Int), .int .u64 (t : Int)] w fun e w' => e = .returned (.bool (inB s t)) ∧ w = w' := by
  go_enter Tryz.func52, Tryz.ntmps52
  go_wp2
  go_ret
  exact ⟨rfl, rfl⟩
/-- a row of numbers that can be read -/
def RdU (w : World) (ad : Option Addr) (ds : List Nat) : Prop := ∀ i (h : i < ds.length), ∃ B O, ad = some ⟨B, O, none⟩ ∧ B < w.heap.size ∧ w.cell? ⟨B, O + i, none⟩ = some (.int .u32 (ds[i] : Int))
theorem RdU.below {w w' : World} {ad : Option Addr} {ds : List Nat} (h : RdU w ad ds) (hb : Below w.heap.size w w') : RdU w' ad ds := fun i hi => by
  obtain ⟨B, O, e, hB, hc⟩ := h i hi
  exact ⟨B, O, e, Nat.lt_of_lt_of_le hB hb.size, (hb.cell (p := ⟨B, O + i, none⟩) hB).trans hc⟩
set_option maxHeartbeats 4000000 in
theorem eqU_any (aa bb : Option Addr) (ac bc : Nat) (xs ys : List Nat) (w : World) (hx : RdU w aa xs) (hy : RdU w bb ys) (hxl : xs.length ≤ 9223372036854775807) (hyl : ys.length ≤ 9223372036854775807) :
    Calls Tryz.prog 54 #[.slice aa xs.length ac, .slice bb ys.length bc] w fun e w' => e = .returned (.bool (decide (xs = ys))) ∧ Below w.heap.size w w' := by
  obtain ⟨R, hR⟩ : ∃ R, R = decide (xs = ys) := ⟨_, rfl⟩
  rw [← hR]
  have HA := Lib.hid hx
  have HB := Lib.hid hy
  have HR := Lib.hid hR
  clear hx hy hR
  by_cases e4 : xs.length = ys.length
  · have d4 : ((xs.length : Int) == (ys.length : Int)) = true := by simp; omega
    have d4' : ((xs.length : Int) != (ys.length : Int)) = false := by simp; omega
    have f4 : xs.length ≤ ys.length := by omega
    have f4' : ys.length ≤ xs.length := by omega
    clear e4
    go_enter Tryz.func54, Tryz.ntmps54
    go_wp2
    go_loopw [13] (fun i wr => ∃ k : Nat, k ≤ xs.length ∧ i = .int .i64 (k : Int) ∧ Hid (xs.take k = ys.take k) ∧ Below w.heap.size w wr) (fun i _ => xs.length - (intOf i).toNat)
    case atStart => exact ⟨0, by omega, rfl, rfl, br _⟩
    case round =>
      obtain ⟨k, hk, rfl, HT, hbr⟩ := hrel
      have HBW := Lib.hid hbr
      by_cases hlt : k < xs.length
      · have hd : decide ((k : Int) < (xs.length : Int)) = true := by simpa using hlt
        have hlt2 : k < ys.length := by omega
        have hi1 : (k : Int) < (xs.length : Int) := by omega
        have hi2 : (k : Int) < (ys.length : Int) := by omega
        obtain ⟨B, O, rfl, hB, hc⟩ := HA.out k hlt
        obtain ⟨B', O', rfl, hB', hc'⟩ := HB.out k hlt2
        have y0 := (hbr.cell (p := ⟨B, O + k, none⟩) hB).trans hc
        have y1 := (hbr.cell (p := ⟨B', O' + k, none⟩) hB').trans hc'
        have ht := Lib.hid (And.intro (List.take_succ_eq_append_getElem hlt) (List.take_succ_eq_append_getElem hlt2))
        clear hc hc' hbr
        by_cases he : xs[k] = ys[k]
        · have g1 : ((xs[k] : Int) == (ys[k] : Int)) = true := by simp; omega
          have g2 : ((xs[k] : Int) != (ys[k] : Int)) = false := by simp; omega
          have HE := Lib.hid he
          clear he
          go_wp2
          go_quiet (fail)
          go_wp2
          exact ⟨⟨k + 1, by omega, by go_num, (show xs.take (k + 1) = ys.take (k + 1) from by rw [ht.out.1, ht.out.2, HT.out, HE.out]), bn HBW.out _⟩, by simp [intOf]; omega⟩
        · have g1 : ((xs[k] : Int) == (ys[k] : Int)) = false := by simp; omega
          have g2 : ((xs[k] : Int) != (ys[k] : Int)) = true := by simp; omega
          have hRf : R = false := by
            rw [HR.out]
            refine decide_eq_false fun h => he ?_
            subst h
            rfl
          subst hRf
          clear he
          go_wp2
          go_quiet (fail)
          go_wp2
          go_ret
          exact ⟨rfl, bn HBW.out _⟩
      · have hd : decide ((k : Int) < (xs.length : Int)) = false := by simpa using hlt
        have hRt : R = true := by
          have hds := HT.out
          rw [List.take_of_length_le (by omega), List.take_of_length_le (by omega)] at hds
          rw [HR.out]
          simp [hds]
        subst hRt
        go_wp2
        go_ret
        exact ⟨rfl, HBW.out⟩
  · have d4 : ((xs.length : Int) == (ys.length : Int)) = false := by simp; omega
    have d4' : ((xs.length : Int) != (ys.length : Int)) = true := by simp; omega
    have hRf : R = false := by rw [HR.out]; exact decide_eq_false fun h => e4 (by rw [h])
    subst hRf
    go_enter Tryz.func54, Tryz.ntmps54
    go_wp2
    go_ret
    exact ⟨rfl, br _⟩
end Go.Proofs.YtogagkgkmoppmaaGreatDoor
namespace Go.Proofs.YtogagkgkmoppmaaGreatDoor
set_option linter.unusedVariables false
set_option linter.unusedSimpArgs false
open Go.RowKit
/-- a message that can be read -/
structure MsgR (w : World) (m : Msg) : Prop where
  ds : RdU w m.da m.ds
  len : m.ds.length ≤ 9223372036854775807
theorem MsgR.below {w w' : World} {m : Msg} (h : MsgR w m) (hb : Below w.heap.size w w') : MsgR w' m := ⟨h.ds.below hb, h.len⟩
end Go.Proofs.YtogagkgkmoppmaaGreatDoor
namespace Go.Proofs.YtogagkgkmoppmaaGreatDoor
set_option linter.unusedVariables false
set_option linter.unusedSimpArgs false
open Go.RowKit
theorem kept_setRow' (w : World) (M : Nat) (cs : Array Value) : Kept (fun b => b = M) w (w.setRow M cs) := ⟨rfl, rfl, rfl, by rw [size_setRow]; exact Nat.le_refl _, fun i _ hs => setRow_other _ _ _ _ hs⟩
/-- a row of messages that can be read -/
def RdM (w : World) (ad : Option Addr) (l : List Msg) : Prop := l.length ≤ 9223372036854775807 ∧ ∀ i (h : i < l.length), MsgR w l[i] ∧ ∃ g o, ad = some ⟨g, o, none⟩ ∧ g < w.heap.size ∧ w.rangeAt g (o + i * 6) (msgA l[i]).toList
theorem RdM.below {w w' : World} {ad : Option Addr} {l : List Msg} (h : RdM w ad l) (hb : Below w.heap.size w w') : RdM w' ad l := ⟨h.1, fun i hi => by
  obtain ⟨h1, g, o, e, hg, hr⟩ := h.2 i hi
  exact ⟨h1.below hb, g, o, e, Nat.lt_of_lt_of_le hg hb.size, fun j u hu => (hb.cell (p := ⟨g, o + i * 6 + j, none⟩) hg).trans (hr j u hu)⟩⟩
def idxM (x : Msg) (l : List Msg) : Int := match l.findIdx? (sameM x) with
  | some i => (i : Int)
  | none => -1
theorem idxM_none {x : Msg} {l : List Msg} (h : ∀ i (hi : i < l.length), sameM x l[i] = false) : idxM x l = -1 := by
  unfold idxM
  rw [List.findIdx?_eq_none_iff.2 (fun y hy => by obtain ⟨i, hi, rfl⟩ := List.getElem_of_mem hy; simpa using h i hi)]
theorem idxM_some {x : Msg} {l : List Msg} {k : Nat} (hk : k < l.length) (h1 : sameM x l[k] = true) (h : ∀ i (hi : i < k), sameM x (l[i]'(by omega)) = false) : idxM x l = (k : Int) := by
  unfold idxM
  have : l.findIdx? (sameM x) = some k := by
    rw [List.findIdx?_eq_some_iff_getElem]
    exact ⟨hk, h1, fun j hj => by rw [h j hj]; exact Bool.noConfusion⟩
  rw [this]
theorem idxM_any (x : Msg) (l : List Msg) : decide (0 ≤ idxM x l) = l.any (sameM x) := by
  unfold idxM
  cases h : l.findIdx? (sameM x) with
  | none =>
    rw [List.findIdx?_eq_none_iff] at h
    have : l.any (sameM x) = false := by rw [List.any_eq_false]; intro y hy; rw [h y hy]; exact Bool.noConfusion
    rw [this]
    decide
  | some i =>
    rw [List.findIdx?_eq_some_iff_getElem] at h
    obtain ⟨hi, h1, _⟩ := h
    have : l.any (sameM x) = true := by rw [List.any_eq_true]; exact ⟨_, List.getElem_mem hi, h1⟩
    rw [this]
    simp
/-- two rows of messages that read the same -/
def sameL : List Msg → List Msg → Bool
  | [], [] => true
  | a :: x, b :: y => sameM a b && sameL x y
  | _, _ => false
theorem sameL_len : ∀ {a b : List Msg}, a.length ≠ b.length → sameL a b = false
  | [], [], h => absurd rfl h
  | [], _ :: _, _ => rfl
  | _ :: _, [], _ => rfl
  | a :: x, b :: y, h => by
    show (sameM a b && sameL x y) = false
    rw [sameL_len (a := x) (b := y) (by simpa using h), Bool.and_false]
theorem sameL_at : ∀ {a b : List Msg} {k : Nat} (ha : k < a.length) (hb : k < b.length), sameM a[k] b[k] = false → sameL a b = false
  | [], _, k, ha, _, _ => by simp at ha
  | _ :: _, [], k, _, hb, _ => by simp at hb
  | a :: x, b :: y, 0, _, _, h => by
    show (sameM a b && sameL x y) = false
    rw [show sameM a b = false from h, Bool.false_and]
  | a :: x, b :: y, k + 1, ha, hb, h => by
    show (sameM a b && sameL x y) = false
    rw [sameL_at (a := x) (b := y) (k := k) (by simpa using ha) (by simpa using hb) (by simpa using h), Bool.and_false]
theorem sameL_all : ∀ {a b : List Msg}, a.length = b.length → (∀ i (ha : i < a.length) (hb : i < b.length), sameM a[i] b[i] = true) → sameL a b = true
  | [], [], _, _ => rfl
  | [], _ :: _, h, _ => by simp at h
  | _ :: _, [], h, _ => by simp at h
  | a :: x, b :: y, hl, h => by
    show (sameM a b && sameL x y) = true
    rw [sameL_all (a := x) (b := y) (by simpa using hl) (fun i h1 h2 => h (i + 1) (by simpa using h1) (by simpa using h2)), show sameM a b = true from h 0 (by simp) (by simp)]
    rfl
end Go.Proofs.YtogagkgkmoppmaaGreatDoor
namespace Go.Proofs.YtogagkgkmoppmaaGreatDoor
set_option linter.unusedVariables false
set_option linter.unusedSimpArgs false
open Go.RowKit
/-- a monitor's cells: its maps' blocks, its row of stays, its numbers -/
structure MC where
  sb : Nat
  hb : Nat
  eb : Nat
  sa : Option Addr
  n : Nat
  sc : Nat
  lb : Nat
  nb : Nat
  broken : Int
  len : Int
  at_ : Int
  rule : Int
def monC (c : MC) : Array Value := #[.map (some c.sb), .map (some c.hb), .map (some c.eb), .slice c.sa c.n c.sc, .map (some c.lb), .map (some c.nb), .int .i64 c.broken, .int .i64 c.len, .int .i64 c.at_, .int .i64 c.rule]
/-- a rule is broken, if something is so -/
def brk (r b : Int) (c : Bool) : Int := if c = true ∧ (b = 0 ∨ r < b) then r else b
def MBk (r : Int) (b : Bool) (c : MC) : MC := { c with broken := brk r c.broken b }
theorem keptS (w : World) (p : Addr) (v : Value) : Kept (fun b => b = p.block) w (w.setCell p v) := (show Kept (fun b => b = p.block) w w from .refl _ _).setCell rfl _
end Go.Proofs.YtogagkgkmoppmaaGreatDoor
namespace Go.Proofs.YtogagkgkmoppmaaGreatDoor
set_option linter.unusedVariables false
set_option linter.unusedSimpArgs false
open Go.RowKit
def Grown (n : Nat) (w : World) (e : Ending) (w' : World) : Prop := ∃ ad cap, e = .returned (.slice ad 0 cap) ∧ w'.ownsRow w.heap.size 31 6 (.slice ad 0 cap) 0 []
theorem info31i : ∃ i, Tryz.prog.info? 31 = some i ∧ i.zero = some (.agg (msgA zeroM)) ∧ i.size = 6 ∧ i.bytes = 72 := info_parts info31
/-- what comes of two rows, one behind the other -/
def Cat2 (w : World) (x y : List Msg) (e : Ending) (w' : World) : Prop := ∃ ad cap, e = .returned (.slice ad (x ++ y).length cap) ∧ w'.ownsRow w.heap.size 31 6 (.slice ad (x ++ y).length cap) (x ++ y).length (rowsM (x ++ y))
theorem RdM.reads {w : World} {ad : Option Addr} {l : List Msg} (h : RdM w ad l) : Reads w w.heap.size 6 ad l.length (rowsM l) := by
  refine ⟨rowsM_len l, fun h0 => ?_⟩
  obtain ⟨_, g, o, e, hg, _⟩ := h.2 0 h0
  refine ⟨⟨g, o, none⟩, e, hg, fun j u hu => ?_⟩
  obtain ⟨i, hi, q, hj, hq⟩ := rowsM_get hu
  obtain ⟨_, g', o', e', hg', hr⟩ := h.2 i hi
  rw [e] at e'
  injection e' with e'
  injection e' with e1 e2 e3
  subst e1 e2
  have := hr q u hq
  rw [hj]
  rw [show (⟨g, o, none⟩ : Addr).add (i * 6 + q) = ⟨g, o + i * 6 + q, none⟩ from by unfold Addr.add; split <;> simp_all [Nat.add_assoc]]
  exact this
end Go.Proofs.YtogagkgkmoppmaaGreatDoor
namespace Go.Proofs.YtogagkgkmoppmaaGreatDoor
set_option linter.unusedVariables false
set_option linter.unusedSimpArgs false
open Go.RowKit
/-- a message whose vector lies in a row of numbers -/
structure MsgT (w : World) (m : Msg) : Prop where
  r : MsgR w m
  ty : ∀ B O, m.da = some ⟨B, O, none⟩ → 0 < m.ds.length → ∃ cs fr, w.heap[B]? = some (.cells cs 28 fr)
/-- a row of such messages, in a row of messages -/
structure RowT (w : World) (ad : Option Addr) (l : List Msg) : Prop where
  r : RdM w ad l
  ty : ∀ g o, ad = some ⟨g, o, none⟩ → 0 < l.length → ∃ cs fr, w.heap[g]? = some (.cells cs 31 fr)
  ms : ∀ m ∈ l, MsgT w m
/-- blocks that hold neither messages nor numbers -/
def Other (w : World) (S : Nat → Prop) : Prop := ∀ b, S b → ∀ cs t fr, w.heap[b]? = some (.cells cs t fr) → t ≠ 31 ∧ t ≠ 28
theorem MsgT.kept {w w' : World} {m : Msg} {S : Nat → Prop} (h : MsgT w m) (hk : Kept S w w') (hs : Other w S) : MsgT w' m := by
  have hne : ∀ B O, m.da = some ⟨B, O, none⟩ → 0 < m.ds.length → ¬ S B := fun B O e h0 hS => by
    obtain ⟨cs, fr, hb⟩ := h.ty B O e h0
    exact (hs B hS cs _ fr hb).2 rfl
  refine ⟨⟨fun i hi => ?_, h.r.len⟩, fun B O e h0 => ?_⟩
  · obtain ⟨B, O, e, hB, hc⟩ := h.r.ds i hi
    exact ⟨B, O, e, Nat.lt_of_lt_of_le hB hk.size, (hk.cell (p := ⟨B, O + i, none⟩) hB (hne B O e (by omega))).trans hc⟩
  · obtain ⟨cs, fr, hb⟩ := h.ty B O e h0
    exact ⟨cs, fr, hk.keep hb (hne B O e h0)⟩
theorem RowT.kept {w w' : World} {ad : Option Addr} {l : List Msg} {S : Nat → Prop} (h : RowT w ad l) (hk : Kept S w w') (hs : Other w S) : RowT w' ad l := by
  have hne : ∀ g o, ad = some ⟨g, o, none⟩ → 0 < l.length → ¬ S g := fun g o e h0 hS => by
    obtain ⟨cs, fr, hb⟩ := h.ty g o e h0
    exact (hs g hS cs _ fr hb).1 rfl
  refine ⟨⟨h.r.1, fun i hi => ?_⟩, fun g o e h0 => ?_, fun m hm => (h.ms m hm).kept hk hs⟩
  · obtain ⟨h1, g, o, e, hg, hr⟩ := h.r.2 i hi
    exact ⟨((h.ms _ (List.getElem_mem hi)).kept hk hs).r, g, o, e, Nat.lt_of_lt_of_le hg hk.size, fun j u hu => (hk.cell (p := ⟨g, o + i * 6 + j, none⟩) hg (hne g o e (by omega))).trans (hr j u hu)⟩
  · obtain ⟨cs, fr, hb⟩ := h.ty g o e h0
    exact ⟨cs, fr, hk.keep hb (hne g o e h0)⟩
theorem Other.none (w : World) : Other w (fun _ => False) := fun b h => h.elim
theorem MsgT.below {w w' : World} {m : Msg} (h : MsgT w m) (hb : Below w.heap.size w w') : MsgT w' m := h.kept (Kept.of_below hb) (Other.none w)
theorem RowT.below {w w' : World} {ad : Option Addr} {l : List Msg} (h : RowT w ad l) (hb : Below w.heap.size w w') : RowT w' ad l := h.kept (Kept.of_below hb) (Other.none w)
theorem RowT.get {w : World} {ad : Option Addr} {l : List Msg} (h : RowT w ad l) {i : Nat} (hi : i < l.length) : MsgT w l[i] := h.ms _ (List.getElem_mem hi)
theorem RowT.nil (w : World) : RowT w none [] := ⟨⟨by simp, fun i h => by simp at h⟩, fun g o e h => by simp at h, fun m hm => by cases hm⟩
/-- what is owned can be read -/
theorem RowT.of_own {w : World} {B : Nat} {ad : Option Addr} {l : List Msg} {cap : Nat} (h : w.ownsRow B 31 6 (.slice ad l.length cap) l.length (rowsM l)) (hl : l.length ≤ 9223372036854775807) (hm : ∀ m ∈ l, MsgT w m) : RowT w ad l := by
  refine ⟨⟨hl, fun i hi => ?_⟩, fun g o e h0 => ?_, hm⟩
  · obtain ⟨g, c, hv, hg0, hg1⟩ := h.form (by omega)
    injection hv with e1 e2 e3
    refine ⟨(hm _ (List.getElem_mem hi)).r, g, 0, e1, hg1, fun j u hu => ?_⟩
    have := h.cells (g := g) (by rw [e1]; rfl) (i * 6 + j) u (rowsM_at l i hi j u hu)
    rw [show (⟨g, 0, none⟩ : Addr).add (i * 6 + j) = ⟨g, 0 + i * 6 + j, none⟩ from by unfold Addr.add; split <;> simp_all [Nat.add_assoc]] at this
    exact this
  · obtain ⟨g', c, hv, hg0, hg1⟩ := h.form (by omega)
    injection hv with e1 e2 e3
    rw [e] at e1
    injection e1 with e1
    injection e1 with e4 e5 e6
    obtain ⟨c, fz, hc⟩ := Lib.ownsRow_kind h g (by rw [e]; rfl)
    exact ⟨c, fz, hc⟩
/-- a stay's cells -/
structure ST where
  proc : Int
  ce : Nat
  cr : Int
  mem : Nat
  p0 : List Msg
  a0 : Option Addr
  c0 : Nat
  p1 : List Msg
  a1 : Option Addr
  c1 : Nat
  cb : Nat
  tr : Option Nat
  went : Bool
def stC (s : ST) : Array Value := #[.int .i64 s.proc, .int .u64 (s.ce : Int), .int .i64 s.cr, .int .u64 (s.mem : Int), .slice s.a0 s.p0.length s.c0, .slice s.a1 s.p1.length s.c1, .map (some s.cb), .pointer (s.tr.map fun b => ⟨b, 0, none⟩), .bool s.went]
end Go.Proofs.YtogagkgkmoppmaaGreatDoor
namespace Go.Proofs.YtogagkgkmoppmaaGreatDoor
set_option linter.unusedVariables false
set_option linter.unusedSimpArgs false
open Go.RowKit
/-- rule 6, of one message -/
def owe (s : ST) (mem : Nat) (c : MC) (x : Msg) : MC := if x.service = 2 ∧ hasB mem s.proc = true then MBk 6 (!(s.p0 ++ s.p1).any (sameM x)) c else c
def owesC (s : ST) (mem : Nat) (l : List Msg) (c : MC) : MC := l.foldl (owe s mem) c
theorem owes_take {s : ST} {mem : Nat} {l : List Msg} {c : MC} {k : Nat} (hk : k < l.length) : owesC s mem (l.take (k + 1)) c = owe s mem (owesC s mem (l.take k) c) l[k] := by
  unfold owesC
  rw [List.take_succ_eq_append_getElem hk, List.foldl_append]
  rfl
end Go.Proofs.YtogagkgkmoppmaaGreatDoor
namespace Go.Proofs.YtogagkgkmoppmaaGreatDoor
set_option linter.unusedVariables false
set_option linter.unusedSimpArgs false
open Go.RowKit
abbrev ConfK := Int × Int
abbrev PlaceK := Int × Int × Int × Int
abbrev HadK := Int × Int × Int × Int × Int
def confV (c : ConfK) : Value := .agg #[.int .u64 c.1, .int .i64 c.2]
def placeV (p : PlaceK) : Value := .agg #[.int .u64 p.1, .int .i64 p.2.1, .int .i64 p.2.2.1, .int .u32 p.2.2.2]
def hadV (h : HadK) : Value := .agg #[.int .i64 h.1, .int .u64 h.2.1, .int .i64 h.2.2.1, .int .i64 h.2.2.2.1, .int .u32 h.2.2.2.2]
open Go.MapKept (IsKey)
theorem u64Check (w : World) (em : Bool) (n : Nat) (a : Int) : (Instr.checkKey em (n + 1) 25 (.int .u64 a)).run Tryz.prog w = .ok () w := MapKept.run_checkKey (P := Tryz.prog) (w := w) Tryz.underlying25 (k := .int .u64 a) (by simp [IsKey]) em n
theorem i64Check (w : World) (em : Bool) (n : Nat) (a : Int) : (Instr.checkKey em (n + 1) 3 (.int .i64 a)).run Tryz.prog w = .ok () w := MapKept.run_checkKey (P := Tryz.prog) (w := w) Tryz.underlying3 (k := .int .i64 a) (by simp [IsKey]) em n
theorem u32Check (w : World) (em : Bool) (n : Nat) (a : Int) : (Instr.checkKey em (n + 1) 28 (.int .u32 a)).run Tryz.prog w = .ok () w := MapKept.run_checkKey (P := Tryz.prog) (w := w) Tryz.underlying28 (k := .int .u32 a) (by simp [IsKey]) em n
set_option maxRecDepth 100000 in
theorem confCheck (w : World) (em : Bool) (n : Nat) (a b : Int) : (Instr.checkKey em (n + 1 + 1) 27 (.agg #[.int .u64 a, .int .i64 b])).run Tryz.prog w = .ok () w := by
  unfold Instr.checkKey
  simp [go_sem, Tryz.underlying27, u64Check, i64Check]
set_option maxRecDepth 100000 in
theorem confEql (w : World) (a0 a1 b0 b1 : Int) : (Go.binOp .eql 27 (.agg #[.int .u64 a0, .int .i64 a1]) (.agg #[.int .u64 b0, .int .i64 b1])).run Tryz.prog w = .ok (.bool (a0 == b0 && a1 == b1)) w := by
  by_cases h0 : a0 = b0
  rotate_left
  · have d : (a0 == b0) = false := by simpa using h0
    rw [d]
    (try simp only [Bool.and_false, Bool.false_and])
    go_simp
  subst h0
  have e0 : (a0 == a0) = true := by simp
  by_cases h1 : a1 = b1
  rotate_left
  · have d : (a1 == b1) = false := by simpa using h1
    rw [d]
    (try simp only [Bool.and_false, Bool.false_and])
    go_simp
  subst h1
  have e1 : (a1 == a1) = true := by simp
  rw [e0, e1]
  (try simp only [Bool.and_self])
  go_simp
theorem equal_of_eql {P : Program} {w : World} {t : TypeId} {x y : Array Value} {r : Bool} (h : (Go.binOp .eql t (.agg x) (.agg y)).run P w = .ok (.bool r) w) : (Op.equal t (.agg x) (.agg y)).run P w = .ok r w := by
  unfold Go.binOp at h
  simp [Result.andThen] at h
  split at h
  · rename_i b w' hb
    injection h with h1 h2
    injection h1 with h1
    rw [hb, h1, h2]
  all_goals cases h
end Go.Proofs.YtogagkgkmoppmaaGreatDoor
namespace Go.Proofs.YtogagkgkmoppmaaGreatDoor
set_option linter.unusedVariables false
set_option linter.unusedSimpArgs false
open Go.RowKit GM
theorem confLaw : KLaw Tryz.prog 27 confV := KLaw.asking Tryz.underlying27 (fun a b h => by
    obtain ⟨a1, a2⟩ := a
    obtain ⟨b1, b2⟩ := b
    simp [confV] at h
    rw [h.1, h.2]) (fun a => ⟨_, rfl⟩) (fun w em a => confCheck w em 9998 _ _) (fun w a b => by
    have h := equal_of_eql (confEql w a.1 a.2 b.1 b.2)
    obtain ⟨a1, a2⟩ := a
    obtain ⟨b1, b2⟩ := b
    refine h.trans (congrArg (fun z => Result.ok z w) ?_)
    rw [Bool.eq_iff_iff]
    simp) (fun a => by simp [confV, Instr.sameBits])
theorem intLaw : KLaw Tryz.prog 3 (fun i : Int => Value.int .i64 i) := KLaw.int Tryz.underlying3
/-- an event's cells -/
structure Ev where
  kind : Int
  proc : Int
  ce : Nat
  cr : Int
  ne : Nat
  nr : Int
  mem : Nat
  m : Msg
  vn : Nat
  vce : Nat
  vcr : Int
  vm : Nat
  na : Option Addr
  nl : Nat
  nc : Nat
  st : ByteArray
def evA (x : Ev) : Array Value := #[.int .i64 x.kind, .int .i64 x.proc, .int .u64 (x.ce : Int), .int .i64 x.cr, .int .u64 (x.ne : Int), .int .i64 x.nr, .int .u64 (x.mem : Int), .int .i64 x.m.frm, .int .u32 (x.m.seq : Int), .int .u64 (x.m.stamp : Int), .int .i64 x.m.service, .slice x.m.da x.m.ds.length x.m.dc, .string x.m.pay, .int .u64 (x.vn : Int), .int .u64 (x.vce : Int), .int .i64 x.vcr, .int .u64 (x.vm : Int), .slice x.na x.nl x.nc, .string x.st]
def EvAt (w : World) (b : Nat) (x : Ev) : Prop := w.heap[b]? = some (.cells (evA x) 36 (0, 0))
/-- a row of messages: what it reads as, and where it lies -/
structure SR where
  l : List Msg
  ad : Option Addr
  cap : Nat
def slV (r : SR) : Value := .slice r.ad r.l.length r.cap
def ptrV (b : Nat) : Value := .pointer (some ⟨b, 0, none⟩)
def RowOk (w : World) (r : SR) : Prop := w.ownsRow 0 31 6 (slV r) r.l.length (rowsM r.l) ∧ ∀ m ∈ r.l, MsgT w m
/-- a stay: its block, its cells, its counts, its EvTrans -/
structure SX where
  b : Nat
  s : ST
  cnt : List (Int × Int)
  ev : Ev
def r0 (x : SX) : SR := ⟨x.s.p0, x.s.a0, x.s.c0⟩
def r1 (x : SX) : SR := ⟨x.s.p1, x.s.a1, x.s.c1⟩
/-- blocks that hold neither numbers nor events -/
def Quiet (w : World) (S : Nat → Prop) : Prop := ∀ b, S b → ∀ cs t fr, w.heap[b]? = some (.cells cs t fr) → t ≠ 28 ∧ t ≠ 36
theorem MsgT.quiet {w w' : World} {m : Msg} {S : Nat → Prop} (h : MsgT w m) (hk : Kept S w w') (hs : Quiet w S) : MsgT w' m := by
  have hne : ∀ B O, m.da = some ⟨B, O, none⟩ → 0 < m.ds.length → ¬ S B := fun B O e h0 hS => by
    obtain ⟨cs, fr, hb⟩ := h.ty B O e h0
    exact (hs B hS cs _ fr hb).1 rfl
  refine ⟨⟨fun i hi => ?_, h.r.len⟩, fun B O e h0 => ?_⟩
  · obtain ⟨B, O, e, hB, hc⟩ := h.r.ds i hi
    exact ⟨B, O, e, Nat.lt_of_lt_of_le hB hk.size, (hk.cell (p := ⟨B, O + i, none⟩) hB (hne B O e (by omega))).trans hc⟩
  · obtain ⟨cs, fr, hb⟩ := h.ty B O e h0
    exact ⟨cs, fr, hk.keep hb (hne B O e h0)⟩
/-- a part: where it lies, and what is so of it -/
structure Pc where
  blk : Option Nat
  ok : World → Prop
  lt : ∀ w b, ok w → blk = some b → b < w.heap.size ∧ ∀ cs t fr, w.heap[b]? = some (.cells cs t fr) → t ≠ 28 ∧ t ≠ 36
  keep : ∀ (w w' : World) (S : Nat → Prop), ok w → Kept S w w' → (∀ b, blk = some b → ¬ S b) → Quiet w S → ok w'
theorem lt_of_cells {w : World} {b : Nat} {cs : Array Value} {t : TypeId} {fr : Nat × Nat} (h : w.heap[b]? = some (.cells cs t fr)) (h1 : t ≠ 28) (h2 : t ≠ 36) :
    b < w.heap.size ∧ ∀ cs t fr, w.heap[b]? = some (.cells cs t fr) → t ≠ 28 ∧ t ≠ 36 := by
  refine ⟨(Array.getElem?_eq_some_iff.1 h).1, fun cs' t' fr' h' => ?_⟩
  rw [h] at h'
  injection h' with h'
  injection h' with _ h' _
  subst h'
  exact ⟨h1, h2⟩
def mapPc {α : Type} [DecidableEq α] (f : α → Value) (b : Nat) (L : List (α × Value)) : Pc where
  blk := some b
  ok := fun w => GMap f w b L
  lt := fun w b' h e => by
    injection e with e
    subst e
    refine ⟨h.lt, fun cs t fr hc => ?_⟩
    obtain ⟨_, es, clock, hb, _⟩ := h
    rw [hb] at hc
    cases hc
  keep := fun w w' S h hk hs _ => h.keep (hk.block _ h.lt (hs _ rfl))
def rowPc (r : SR) : Pc where
  blk := (slV r).ownBlock
  ok := fun w => RowOk w r
  lt := fun w b h e => by
    obtain ⟨c, fz, hc⟩ := Lib.ownsRow_kind h.1 b e
    exact lt_of_cells hc (by decide) (by decide)
  keep := fun w w' S h hk hs hq => ⟨own_keptS h.1 hk hs, fun m hm => (h.2 m hm).quiet hk hq⟩
/-- parts that lie apart, from a block on -/
structure Own (w : World) (b0 : Nat) (l : List Pc) : Prop where
  ok : ∀ p ∈ l, p.ok w
  base : ∀ p ∈ l, ∀ b, p.blk = some b → b0 ≤ b
  ap : l.Pairwise fun p q => ∀ b, p.blk = some b → q.blk ≠ some b
theorem Own.perm {w : World} {b0 : Nat} {l l' : List Pc} (h : Own w b0 l) (hp : l.Perm l') : Own w b0 l' :=
  ⟨fun p hm => h.ok p (hp.mem_iff.2 hm), fun p hm => h.base p (hp.mem_iff.2 hm), (hp.pairwise_iff (fun {x y} hxy b hb e => hxy b e hb)).1 h.ap⟩
theorem Own.below {w w' : World} {b0 : Nat} {l : List Pc} (h : Own w b0 l) (hb : Below w.heap.size w w') : Own w' b0 l :=
  ⟨fun p hp => p.keep w w' (fun _ => False) (h.ok p hp) (Kept.of_below hb) (fun _ _ h => h) (fun _ h => h.elim), h.base, h.ap⟩
theorem Own.left {w : World} {b0 : Nat} {l r : List Pc} (h : Own w b0 (l ++ r)) : Own w b0 l :=
  ⟨fun p hp => h.ok p (List.mem_append_left _ hp), fun p hp => h.base p (List.mem_append_left _ hp), (List.pairwise_append.1 h.ap).1⟩
/-- the blocks of some parts, and all that are new -/
def Reach (w : World) (L : List Pc) (b : Nat) : Prop := (∃ p ∈ L, p.blk = some b) ∨ w.heap.size ≤ b
theorem Own.quiet {w : World} {b0 : Nat} {l : List Pc} (h : Own w b0 l) : Quiet w (Reach w l) := by
  intro b hb cs t fr hc
  rcases hb with ⟨p, hp, e⟩ | hb
  · exact (p.lt w b (h.ok p hp) e).2 cs t fr hc
  · rw [Array.getElem?_eq_none hb] at hc
    cases hc
/-- a step that changes some parts leaves the others -/
theorem Own.step {w w' : World} {b0 : Nat} {L L' R : List Pc} (h : Own w b0 (L ++ R)) (hb0 : b0 ≤ w.heap.size) (hk : Kept (Reach w L) w w') (hL : Own w' 0 L') (hB : ∀ p ∈ L', ∀ b, p.blk = some b → Reach w L b) : Own w' b0 (L' ++ R) := by
  have hLR := (List.pairwise_append.1 h.ap).2.2
  have hout : ∀ p ∈ R, ∀ b, p.blk = some b → ¬ Reach w L b := fun p hp b e hr => by
    rcases hr with ⟨q, hq, e'⟩ | hr
    · exact hLR q hq p hp b e' e
    · have := (p.lt w b (h.ok p (List.mem_append_right _ hp)) e).1
      omega
  refine ⟨fun p hp => ?_, fun p hp b e => ?_, List.pairwise_append.2 ⟨hL.ap, (List.pairwise_append.1 h.ap).2.1, fun p hp q hq b e e' => hout q hq b e' (hB p hp b e)⟩⟩
  · rcases List.mem_append.1 hp with hp | hp
    · exact hL.ok p hp
    · exact p.keep w w' _ (h.ok p (List.mem_append_right _ hp)) hk (hout p hp) h.left.quiet
  · rcases List.mem_append.1 hp with hp | hp
    · rcases hB p hp b e with ⟨q, hq, e'⟩ | hr
      · exact h.base q (List.mem_append_left _ hq) b e'
      · omega
    · exact h.base p (List.mem_append_right _ hp) b e
/-- what lies below all parts stays -/
theorem Own.low {w w' : World} {b0 : Nat} {L : List Pc} (h : Own w b0 L) (hb0 : b0 ≤ w.heap.size) (hk : Kept (Reach w L) w w') : Kept (fun b => b0 ≤ b) w w' := by
  refine hk.more fun b _ hb => ?_
  rcases hb with ⟨p, hp, e⟩ | hb
  · exact h.base p hp b e
  · omega
/-- a monitor -/
structure MM where
  c : MC
  sends : List (PlaceK × SR)
  seen : List (HadK × Bool)
  mems : List (ConfK × Nat)
  stays : List SX
  live : List (Int × Bool)
  now : List (Int × Nat)
abbrev intV (i : Int) : Value := .int .i64 i
def nthV (l : List SX) (k : Nat) : Value := ptrV ((l.map fun x => x.b).getD k 0)
def sendsPc (M : MM) : Pc := mapPc placeV M.c.sb (vals slV M.sends)
def seenPc (M : MM) : Pc := mapPc hadV M.c.hb (vals (fun b : Bool => Value.bool b) M.seen)
def memsPc (M : MM) : Pc := mapPc confV M.c.eb (vals (fun n : Nat => Value.int .u64 (n : Int)) M.mems)
def livePc (M : MM) : Pc := mapPc intV M.c.lb (vals (fun b : Bool => Value.bool b) M.live)
def nowPc (M : MM) : Pc := mapPc intV M.c.nb (vals (nthV M.stays) M.now)
/-- what a monitor's parts keep to -/
structure MOk (M : MM) : Prop where
  n : M.c.n = M.stays.length
  now : ∀ p ∈ M.now, p.2 < M.stays.length
end Go.Proofs.YtogagkgkmoppmaaGreatDoor
namespace Go.Proofs.YtogagkgkmoppmaaGreatDoor
set_option linter.unusedVariables false
set_option linter.unusedSimpArgs false
open Go.RowKit GM
/-- a message without its place -/
def bare (m : Msg) : Msg := { m with da := none, dc := 0 }
theorem sameM_bare (a b : Msg) : sameM (bare a) (bare b) = sameM a b := rfl
structure PS where
  proc : Int
  conf : ConfK
  mem : Nat
  p0 : List Msg
  p1 : List Msg
  cnt : Int → Int
  tr : Option (ConfK × Nat)
  went : Bool
structure PM where
  sends : PlaceK → List Msg
  seen : HadK → Bool
  mems : ConfK → Option Nat
  stays : List PS
  live : Int → Bool
  now : Int → Option Nat
  broken : Int
  len : Int
  at_ : Int
  rule : Int
def conf (x : Ev) : ConfK := ((x.ce : Int), x.cr)
def next (x : Ev) : ConfK := ((x.ne : Int), x.nr)
def trOf (x : SX) : Option (ConfK × Nat) := if x.s.tr.isSome = true then some (next x.ev, x.ev.mem) else none
def projS (x : SX) : PS where
  proc := x.s.proc
  conf := ((x.s.ce : Int), x.s.cr)
  mem := x.s.mem
  p0 := x.s.p0.map bare
  p1 := x.s.p1.map bare
  cnt := fun i => (get x.cnt i).getD 0
  tr := trOf x
  went := x.s.went
def proj (M : MM) : PM where
  sends := fun k => match get M.sends k with
    | some r => r.l.map bare
    | none => []
  seen := fun k => (get M.seen k).getD false
  mems := fun k => get M.mems k
  stays := M.stays.map projS
  live := fun k => (get M.live k).getD false
  now := fun k => get M.now k
  broken := M.c.broken
  len := M.c.len
  at_ := M.c.at_
  rule := M.c.rule
def PM.br (P : PM) (r : Int) (b : Bool) : PM := { P with broken := brk r P.broken b }
def MM.br (M : MM) (r : Int) (b : Bool) : MM := { M with c := MBk r b M.c }
theorem proj_br (M : MM) (r : Int) (b : Bool) : proj (M.br r b) = (proj M).br r b := rfl
theorem br_ok {M : MM} (h : MOk M) (r : Int) (b : Bool) : MOk (M.br r b) := ⟨h.n, h.now⟩
section
variable {w : World} {B b0 : Nat} {M : MM} {R : List Pc}
end
theorem RowOk.row {w : World} {r : SR} (h : RowOk w r) (hl : r.l.length ≤ 9223372036854775807) : RowT w r.ad r.l := RowT.of_own h.1 hl h.2
/-- the stay that an event stands in -/
def stayOf (M : MM) (x : Ev) : Option Nat := match get M.now x.proc with
  | none => none
  | some k => match M.stays[k]? with
    | none => none
    | some s => if (get M.live x.proc).getD false = true ∧ s.s.ce = x.ce ∧ s.s.cr = x.cr then some k else none
def pstay (P : PM) (x : Ev) : Option Nat := match P.now x.proc with
  | none => none
  | some k => match P.stays[k]? with
    | none => none
    | some s => if P.live x.proc = true ∧ s.conf = conf x then some k else none
theorem stayOf_proj (M : MM) (x : Ev) : stayOf M x = pstay (proj M) x := by
  unfold stayOf pstay
  simp only [proj]
  cases get M.now x.proc with
  | none => rfl
  | some k =>
    simp only [List.getElem?_map]
    cases M.stays[k]? with
    | none => rfl
    | some s =>
      simp only [Option.map_some, projS, conf, Prod.mk.injEq, Int.natCast_inj]
end Go.Proofs.YtogagkgkmoppmaaGreatDoor
namespace Go.Proofs.YtogagkgkmoppmaaGreatDoor
set_option linter.unusedVariables false
set_option linter.unusedSimpArgs false
open Go.RowKit GM
set_option maxRecDepth 100000 in
theorem confNeq (w : World) (a0 a1 b0 b1 : Int) : (Go.binOp .neq 27 (.agg #[.int .u64 a0, .int .i64 a1]) (.agg #[.int .u64 b0, .int .i64 b1])).run Tryz.prog w = .ok (.bool (!(a0 == b0 && a1 == b1))) w := by
  by_cases h0 : a0 = b0
  rotate_left
  · have d : (a0 == b0) = false := by simpa using h0
    rw [d]
    (try simp only [Bool.and_false, Bool.false_and])
    go_simp
  subst h0
  have e0 : (a0 == a0) = true := by simp
  by_cases h1 : a1 = b1
  rotate_left
  · have d : (a1 == b1) = false := by simpa using h1
    rw [d]
    (try simp only [Bool.and_false, Bool.false_and])
    go_simp
  subst h1
  have e1 : (a1 == a1) = true := by simp
  rw [e0, e1]
  (try simp only [Bool.and_self])
  go_simp
theorem now_lt {M : MM} (h : MOk M) {i : Int} {k : Nat} (hk : get M.now i = some k) : k < M.stays.length := by
  unfold GM.get at hk
  cases hf : M.now.find? (fun x => decide (x.1 = i)) with
  | none => rw [hf] at hk; cases hk
  | some p =>
    rw [hf] at hk
    injection hk with hk
    rw [← hk]
    exact h.now p (List.mem_of_find?_eq_some hf)
theorem nth_at {l : List SX} {k : Nat} (h : k < l.length) : nthV l k = ptrV l[k].b := by
  unfold nthV
  simp [h]
end Go.Proofs.YtogagkgkmoppmaaGreatDoor
namespace Go.Proofs.YtogagkgkmoppmaaGreatDoor
set_option linter.unusedVariables false
set_option linter.unusedSimpArgs false
open Go.RowKit GM
def MM.bz (M : MM) (z : Int) : MM := { M with c := { M.c with broken := z } }
def MM.setS (M : MM) (k : Nat) (x : SX) : MM := { M with stays := M.stays.set k x }
theorem bz_ok {M : MM} (h : MOk M) (z : Int) : MOk (M.bz z) := ⟨h.n, h.now⟩
theorem setS_ok {M : MM} (h : MOk M) (k : Nat) (x : SX) : MOk (M.setS k x) := ⟨by simp [MM.setS]; exact h.n, by simp [MM.setS]; exact fun a b hab => h.now (a, b) hab⟩
theorem proj_setS (M : MM) (k : Nat) (x : SX) : proj (M.setS k x) = { proj M with stays := (proj M).stays.set k (projS x) } := by simp [proj, MM.setS, List.map_set]
/-- what is owed, of the rule that is broken -/
def oweZ (p : Int) (all : List Msg) (mem : Nat) (l : List Msg) (z : Int) : Int := l.foldl (fun z x => if x.service = 2 ∧ hasB mem p = true then brk 6 z (!all.any (sameM x)) else z) z
theorem owesC_eq (s : ST) (mem : Nat) (l : List Msg) : ∀ c : MC, owesC s mem l c = { c with broken := oweZ s.proc (s.p0 ++ s.p1) mem l c.broken } := by
  induction l with
  | nil => intro c; rfl
  | cons x l ih =>
    intro c
    show owesC s mem l (owe s mem c x) = _
    rw [ih]
    unfold owe oweZ
    simp only [List.foldl_cons]
    split
    · rfl
    · rfl
theorem any_bare (x : Msg) (l : List Msg) : (l.map bare).any (sameM (bare x)) = l.any (sameM x) := by
  induction l with
  | nil => rfl
  | cons y l ih => rw [List.map_cons, List.any_cons, List.any_cons, ih, sameM_bare]
theorem oweZ_bare (p : Int) (all : List Msg) (mem : Nat) (l : List Msg) (z : Int) : oweZ p (all.map bare) mem (l.map bare) z = oweZ p all mem l z := by
  unfold oweZ
  rw [List.foldl_map]
  congr 1
  funext z x
  rw [any_bare]
  rfl
theorem sameL_bare : ∀ a b : List Msg, sameL (a.map bare) (b.map bare) = sameL a b
  | [], [] => rfl
  | [], _ :: _ => rfl
  | _ :: _, [] => rfl
  | x :: a, y :: b => by
    show (sameM (bare x) (bare y) && sameL (a.map bare) (b.map bare)) = (sameM x y && sameL a b)
    rw [sameL_bare a b, sameM_bare]
end Go.Proofs.YtogagkgkmoppmaaGreatDoor
namespace Go.Proofs.YtogagkgkmoppmaaGreatDoor
set_option linter.unusedVariables false
set_option linter.unusedSimpArgs false
open Go.RowKit GM
theorem set_perm : ∀ {l : List Pc} {i : Nat} (hi : i < l.length) (q : Pc), (l.set i q).Perm (q :: l.eraseIdx i)
  | a :: l, 0, _, q => List.Perm.refl _
  | a :: l, i + 1, hi, q => by
    have hi' : i < l.length := by simpa using hi
    have ih := set_perm hi' q
    show (a :: l.set i q).Perm (q :: a :: l.eraseIdx i)
    exact (List.Perm.cons a ih).trans (List.Perm.swap q a _)
theorem get_perm : ∀ {l : List Pc} {i : Nat} (hi : i < l.length), l.Perm (l[i] :: l.eraseIdx i)
  | a :: l, 0, _ => List.Perm.refl _
  | a :: l, i + 1, hi => by
    have hi' : i < l.length := by simpa using hi
    have ih := get_perm hi'
    show (a :: l).Perm (l[i] :: a :: l.eraseIdx i)
    exact (List.Perm.cons a ih).trans (List.Perm.swap l[i] a _)
/-- one part changes -/
theorem own_at {w w' : World} {b0 : Nat} {l : List Pc} (i : Nat) {p : Pc} (q : Pc) (h : Own w b0 l) (hb0 : b0 ≤ w.heap.size) (hp : l[i]? = some p) (hk : Kept (fun k => p.blk = some k) w w') (hq : q.ok w') (hB : ∀ b, q.blk = some b → p.blk = some b ∨ w.heap.size ≤ b) :
    Own w' b0 (l.set i q) ∧ Kept (fun k => b0 ≤ k) w w' := by
  obtain ⟨hi, rfl⟩ := List.getElem?_eq_some_iff.1 hp
  have h' : Own w b0 ([l[i]] ++ l.eraseIdx i) := h.perm (get_perm hi)
  have hk' : Kept (Reach w [l[i]]) w w' := hk.more fun k _ e => .inl ⟨_, List.mem_singleton.2 rfl, e⟩
  refine ⟨(Own.step h' hb0 hk' (L' := [q]) ⟨fun x hx => by rw [List.mem_singleton.1 hx]; exact hq, fun _ _ _ _ => Nat.zero_le _, List.pairwise_singleton _ _⟩ ?_).perm (set_perm hi q).symm, Own.low h'.left hb0 hk'⟩
  intro x hx b hb
  rw [List.mem_singleton.1 hx] at hb
  rcases hB b hb with hB | hB
  · exact .inl ⟨_, List.mem_singleton.2 rfl, hB⟩
  · exact .inr hB
/-- a part comes anew -/
theorem own_new {w w' : World} {b0 : Nat} {l : List Pc} (q : Pc) (h : Own w b0 l) (hb0 : b0 ≤ w.heap.size) (hb : Below w.heap.size w w') (hq : q.ok w') (hB : ∀ b, q.blk = some b → w.heap.size ≤ b) : Own w' b0 (q :: l) := by
  refine Own.step (L := []) (L' := [q]) h hb0 (Kept.of_below hb) ⟨fun x hx => by rw [List.mem_singleton.1 hx]; exact hq, fun _ _ _ _ => Nat.zero_le _, List.pairwise_singleton _ _⟩ ?_
  intro x hx b hbb
  rw [List.mem_singleton.1 hx] at hbb
  exact .inr (hB b hbb)
theorem Own.sub {w : World} {b0 : Nat} {l l' : List Pc} (h : Own w b0 l) (hs : l'.Sublist l) : Own w b0 l' :=
  ⟨fun p hp => h.ok p (hs.subset hp), fun p hp => h.base p (hs.subset hp), h.ap.sublist hs⟩
theorem Own.drop {w : World} {b0 : Nat} {A Q R : List Pc} (h : Own w b0 (A ++ (Q ++ R))) : Own w b0 (A ++ R) :=
  h.sub ((List.Sublist.refl A).append (List.sublist_append_right Q R))
theorem Own.mid {w : World} {b0 : Nat} {A Q R : List Pc} (h : Own w b0 (Q ++ (A ++ R))) : Own w b0 (A ++ (Q ++ R)) := h.perm (List.perm_append_comm_assoc _ _ _)
theorem Own.mid1 {w : World} {b0 : Nat} {A R : List Pc} {q : Pc} (h : Own w b0 (q :: (A ++ R))) : Own w b0 (A ++ (q :: R)) := h.perm List.perm_middle.symm
/-- an event -/
def evPc (X : Nat) (x : Ev) : Pc where
  blk := none
  ok := fun w => EvAt w X x
  lt := fun w b h e => by cases e
  keep := fun w w' S h hk hs hq => hk.keep h (fun hS => (hq X hS _ _ _ h).2 rfl)
/-- a message -/
def msgPc (m : Msg) : Pc where
  blk := none
  ok := fun w => MsgT w m
  lt := fun w b h e => by cases e
  keep := fun w w' S h hk hs hq => h.quiet hk hq
/-- a variable -/
def varPc (b : Nat) (cs : Array Value) (t : TypeId) (h1 : t ≠ 28) (h2 : t ≠ 36) : Pc where
  blk := some b
  ok := fun w => w.heap[b]? = some (.cells cs t (0, 0))
  lt := fun w b' h e => by injection e with e; subst e; exact lt_of_cells h h1 h2
  keep := fun w w' S h hk hs hq => hk.keep h (hs _ rfl)
section
variable {w : World} {B b0 : Nat} {M : MM} {R : List Pc}
end
theorem bz_bz (M : MM) (a b : Int) : (M.bz a).bz b = M.bz b := rfl
theorem br_z (M : MM) (z r : Int) (c : Bool) : (M.bz z).br r c = M.bz (brk r z c) := rfl
theorem bz_self (M : MM) : M.bz M.c.broken = M := rfl
end Go.Proofs.YtogagkgkmoppmaaGreatDoor
namespace Go.Proofs.YtogagkgkmoppmaaGreatDoor
set_option linter.unusedVariables false
set_option linter.unusedSimpArgs false
open Go.RowKit GM
theorem put_split {α β : Type} [DecidableEq α] : ∀ {L : List (α × β)} {k : α} {r : β}, (L.map (·.1)).Nodup → get L k = some r → ∃ l1 l2, L = l1 ++ (k, r) :: l2 ∧ ∀ v, put L k v = l1 ++ (k, v) :: l2
  | [], k, r, _, h => by cases h
  | (a, b) :: L, k, r, hn, h => by
    rw [List.map_cons, List.nodup_cons] at hn
    by_cases e : a = k
    · subst e
      have hb : b = r := by
        unfold GM.get at h
        simp only [List.find?_cons, decide_true, Option.map_some] at h
        injection h
      subst hb
      refine ⟨[], L, rfl, fun v => ?_⟩
      unfold put has
      simp only [List.find?_cons, decide_true, Option.isSome_some, if_true, List.map_cons, List.nil_append]
      congr 1
      refine (List.map_congr_left fun x hx => ?_).trans (List.map_id _)
      have : x.1 ≠ a := fun e => hn.1 (e ▸ List.mem_map.2 ⟨x, hx, rfl⟩)
      simp [this]
    · have h' : get L k = some r := by
        unfold GM.get at h ⊢
        rwa [List.find?_cons_of_neg (by simpa using e)] at h
      obtain ⟨l1, l2, e1, e2⟩ := put_split hn.2 h'
      refine ⟨(a, b) :: l1, l2, by rw [e1]; rfl, fun v => ?_⟩
      have h2 := e2 v
      have hh : has L k = true := by rw [has_get, h']; rfl
      have hh2 : has ((a, b) :: L) k = true := by
        unfold has at hh ⊢
        rwa [List.find?_cons_of_neg (by simpa using e)]
      unfold put at h2 ⊢
      rw [if_pos hh] at h2
      rw [if_pos hh2, List.map_cons, if_neg e, h2]
      rfl
theorem perm_sr (m s r : Pc) (X Y : List Pc) : (m :: s :: (X ++ r :: Y)).Perm (s :: r :: m :: (X ++ Y)) := by
  refine (List.Perm.swap s m _).trans (List.Perm.cons s ?_)
  exact (List.Perm.cons m List.perm_middle).trans (List.Perm.swap r m _)
def noRow : SR := ⟨[], none, 0⟩
def sentR (M : MM) (k : PlaceK) : SR := (get M.sends k).getD noRow
def MM.sent (M : MM) (k : PlaceK) (r : SR) : MM := { M with sends := put M.sends k r }
theorem noRow_ok (w : World) : RowOk w noRow := ⟨⟨rfl, .inl ⟨rfl, rfl⟩⟩, fun m hm => by cases hm⟩
theorem map_ne_row {α : Type} [DecidableEq α] {f : α → Value} {w : World} {b : Nat} {L : List (α × Value)} (h : GMap f w b L) {r : SR} (hr : RowOk w r) : (rowPc r).blk ≠ some b := by
  intro e
  obtain ⟨c, fz, hc⟩ := Lib.ownsRow_kind hr.1 b e
  obtain ⟨_, es, clock, hb, _⟩ := h
  rw [hb] at hc
  cases hc
/-- how great a monitor is -/
structure Sz (n : Nat) (M : MM) : Prop where
  stays : M.stays.length ≤ n
  rows : ∀ x ∈ M.stays, x.s.p0.length ≤ n ∧ x.s.p1.length ≤ n
  cnt : ∀ x ∈ M.stays, ∀ i, 0 ≤ (get x.cnt i).getD 0 ∧ (get x.cnt i).getD 0 ≤ n
  sent : ∀ k, (sentR M k).l.length ≤ n
theorem Sz.more {n m : Nat} {M : MM} (h : Sz n M) (hn : n ≤ m) : Sz m M :=
  ⟨Nat.le_trans h.stays hn, fun x hx => ⟨Nat.le_trans (h.rows x hx).1 hn, Nat.le_trans (h.rows x hx).2 hn⟩, fun x hx i => ⟨(h.cnt x hx i).1, by have := (h.cnt x hx i).2; omega⟩, fun k => Nat.le_trans (h.sent k) hn⟩
theorem sentR_sent (M : MM) (k : PlaceK) (r : SR) (k' : PlaceK) : sentR (M.sent k r) k' = if k' = k then r else sentR M k' := by
  unfold sentR MM.sent
  simp only [get_put]
  split
  · rfl
  · rfl
theorem ecell {w : World} {X : Nat} {x : Ev} (h : EvAt w X x) (i : Nat) {v : Value} (hv : (evA x)[i]? = some v) : ∀ y : Bel w, y.val.cell? ⟨X, i, none⟩ = some v :=
  Bel.cell ((cell_of_row _ _ i _ _ _ h).trans hv) (Array.getElem?_eq_some_iff.1 h).1
theorem at0 {w : World} {p : Addr} {v : Value} (h : ∀ y : Bel w, y.val.cell? p = some v) : w.cell? p = some v := h ⟨w, br w⟩
theorem confEq (w : World) (a0 a1 b0 b1 : Int) : (Go.binOp .eql 27 (.agg #[.int .u64 a0, .int .i64 a1]) (.agg #[.int .u64 b0, .int .i64 b1])).run Tryz.prog w = .ok (.bool (a0 == b0 && a1 == b1)) w := confEql w a0 a1 b0 b1
theorem reads_one (w : World) (v : Value) (t : TypeId) : Reads (w.alloc (.cells #[v] t)) (w.heap.size + 1) 1 (some ⟨w.heap.size, 0, none⟩) 1 [v] :=
  ⟨rfl, fun _ => ⟨_, rfl, by show w.heap.size < w.heap.size + 1; omega, fun j u hu => new_cells w [v] t j u hu⟩⟩
end Go.Proofs.YtogagkgkmoppmaaGreatDoor
namespace Go.Proofs.YtogagkgkmoppmaaGreatDoor
set_option linter.unusedVariables false
set_option linter.unusedSimpArgs false
open Go.RowKit GM
def place (x : Ev) : PlaceK := ((x.ce : Int), x.cr, x.m.frm, (x.m.seq : Int))
theorem sent_val (M : MM) (k : PlaceK) : (get (vals slV M.sends) k).getD (.slice none 0 0) = slV (sentR M k) := by
  rw [get_vals]
  unfold sentR
  cases get M.sends k <;> rfl
/-- the map of what was sent, and one of its rows -/
def ZS (M : MM) (k : PlaceK) (b : Nat) : Prop := b = M.c.sb ∨ (rowPc (sentR M k)).blk = some b
/-- what the place of a message, and the message, read as -/
structure SendS (B X KB sb : Nat) (x : Ev) (w : World) : Prop where
  c0 : w.cell? ⟨B, 0, none⟩ = some (.map (some sb))
  k : w.rangeAt KB 0 [.int .u64 (x.ce : Int), .int .i64 x.cr, .int .i64 x.m.frm, .int .u32 (x.m.seq : Int)]
  m : w.rangeAt X 7 (msgA x.m).toList
theorem range_of {w : World} {b o : Nat} {cs : Array Value} {t : TypeId} {fr : Nat × Nat} (h : w.heap[b]? = some (.cells cs t fr)) (l : List Value) (hl : ∀ j u, l[j]? = some u → cs[o + j]? = some u) : w.rangeAt b o l := fun j u hu => (cell_of_row _ _ _ _ _ _ h).trans (hl j u hu)
theorem ev_msg (x : Ev) (j : Nat) (u : Value) (h : (msgA x.m).toList[j]? = some u) : (evA x)[7 + j]? = some u := by
  have hj : j < 6 := by
    have := (List.getElem?_eq_some_iff.1 h).1
    simpa [msgA] using this
  unfold msgA at h
  unfold evA
  rcases j with _ | _ | _ | _ | _ | _ | j
  all_goals first | exact h | omega
def psnd (P : PM) (x : Ev) : PM := if x.proc = x.m.frm then { P with sends := fun k => if k = place x then P.sends (place x) ++ [bare x.m] else P.sends k } else P
def psend (P : PM) (x : Ev) : PM := match pstay (psnd P x) x with
  | none => (psnd P x).br 1 true
  | some k => match (psnd P x).stays[k]? with
    | none => psnd P x
    | some s => (psnd P x).br 1 s.tr.isSome
theorem proj_sends (M : MM) (k : PlaceK) : (proj M).sends k = (sentR M k).l.map bare := by
  unfold sentR
  simp only [proj]
  cases get M.sends k <;> rfl
theorem proj_sent (M : MM) (x : Ev) (r : SR) (hr : r.l = (sentR M (place x)).l ++ [x.m]) (hp : x.proc = x.m.frm) : proj (M.sent (place x) r) = psnd (proj M) x := by
  unfold psnd
  rw [if_pos hp]
  have h : (proj (M.sent (place x) r)).sends = fun k => if k = place x then (proj M).sends (place x) ++ [bare x.m] else (proj M).sends k := by
    funext k
    rw [proj_sends, sentR_sent]
    split
    · rw [hr, List.map_append, proj_sends]
      rfl
    · rw [proj_sends]
  show proj (M.sent (place x) r) = _
  rw [← h]
  rfl
theorem tr_isSome (x : SX) : (projS x).tr.isSome = x.s.tr.isSome := by
  simp only [projS, trOf]
  cases x.s.tr <;> rfl
theorem evInfo : (Tryz.prog.info? 36).map (·.size) = some 19 := by kernel_rfl
end Go.Proofs.YtogagkgkmoppmaaGreatDoor
namespace Go.Proofs.YtogagkgkmoppmaaGreatDoor
set_option linter.unusedVariables false
set_option linter.unusedSimpArgs false
open Go.RowKit GM
theorem reads_moreE {w : World} {B B' s n : Nat} {ad : Option Addr} {xs : List Value} (h : Reads w B s ad n xs) (hb : B ≤ B') : Reads w B' s ad n xs :=
  ⟨h.1, fun hn => by
    obtain ⟨p, e, hp, hc⟩ := h.2 hn
    exact ⟨p, e, Nat.lt_of_lt_of_le hp hb, hc⟩⟩
/-- an event that came in: what lies behind it -/
structure EvOk (w : World) (x : Ev) : Prop where
  rd : Reads w w.heap.size 1 x.m.da x.m.ds.length (numsM x.m.ds)
  ds : ∀ q ∈ x.m.ds, q < 4294967296
  dl : x.m.ds.length ≤ 35184372087808
  pay : x.m.pay.size ≤ 140737488351232
  st : x.st.size ≤ 140737488351232
  nl : x.nl ≤ 140737488351232
def EvsAt (w : World) (ad : Option Addr) (l : List Ev) : Prop := l.length ≤ 140737488351232 ∧ ∀ i (hi : i < l.length), ∃ b o, ad = some ⟨b, o, none⟩ ∧ b < w.heap.size ∧ w.rangeAt b (o + i * 19) (evA l[i]).toList ∧ EvOk w l[i]
theorem EvOk.below {w w' : World} {x : Ev} (h : EvOk w x) (hb : Below w.heap.size w w') : EvOk w' x := ⟨reads_moreE (h.rd.below hb) hb.size, h.ds, h.dl, h.pay, h.st, h.nl⟩
theorem EvsAt.below {w w' : World} {ad : Option Addr} {l : List Ev} (h : EvsAt w ad l) (hb : Below w.heap.size w w') : EvsAt w' ad l := by
  refine ⟨h.1, fun i hi => ?_⟩
  obtain ⟨b, o, e, hB, hr, hk⟩ := h.2 i hi
  exact ⟨b, o, e, Nat.lt_of_lt_of_le hB hb.size, fun j u hu => (hb.cell (p := ⟨b, o + i * 19 + j, none⟩) hB).trans (hr j u hu), hk.below hb⟩
def FewEnd (l : List Ev) (e : Ending) : Prop := ∃ b, e = .returned (.bool b) ∧ (b = true → l.length ≤ 500)
set_option maxRecDepth 100000 in
set_option maxHeartbeats 8000000 in
theorem few_any (w : World) (ad : Option Addr) (cap : Nat) (l : List Ev) (h : EvsAt w ad l) : Calls Tryz.prog 6 #[.slice ad l.length cap] w fun e w' => FewEnd l e ∧ Below w.heap.size w w' := by
  have HL := Lib.hid h
  have hll := h.1
  obtain ⟨n, hn⟩ : ∃ n, n = l.length := ⟨_, rfl⟩
  rw [← hn] at hll ⊢
  have HN := Lib.hid hn
  clear h hn
  go_enter Tryz.func6, Tryz.ntmps6
  go_wp2_with fail
  go_loopw [3, 4] (fun v i wr => ∃ (k : Nat) (y : Int), k ≤ n ∧ k ≤ 500 ∧ i = .int .i64 (k : Int) ∧ v = .int .i64 y ∧ 0 ≤ y ∧ y ≤ 20000 ∧ Hid (Below w.heap.size w wr)) (fun _ i _ => n - (intOf i).toNat)
  case atStart => exact ⟨0, 0, by omega, by omega, rfl, rfl, by omega, by omega, br w⟩
  case round =>
    obtain ⟨k, y, hk, hk5, rfl, rfl, hy0, hy1, HW⟩ := hrel
    by_cases hlt : k < n
    · have hbool' : decide ((k : Int) < (n : Int)) = true := by rw [decide_eq_true_eq]; omega
      have hbool : decide (k < n) = true := by rw [decide_eq_true_eq]; omega
      have hki : (k : Int) < (n : Int) := by omega
      have hkl : k < l.length := by rw [← HN.out]; exact hlt
      obtain ⟨b, o, rfl, hB, hr, hok⟩ := (HL.out.below HW.out).2 k hkl
      obtain ⟨x, hx⟩ : ∃ x, x = l[k] := ⟨_, rfl⟩
      rw [← hx] at hr hok
      have d12 := Bel.cell (show wr.cell? ⟨b, o + k * 19 + 12, none⟩ = some (.string x.m.pay) from hr 12 _ rfl) hB
      have d11 := Bel.cell (show wr.cell? ⟨b, o + k * 19 + 11, none⟩ = some (.slice x.m.da x.m.ds.length x.m.dc) from hr 11 _ rfl) hB
      have d17 := Bel.cell (show wr.cell? ⟨b, o + k * 19 + 17, none⟩ = some (.slice x.na x.nl x.nc) from hr 17 _ rfl) hB
      have d18 := Bel.cell (show wr.cell? ⟨b, o + k * 19 + 18, none⟩ = some (.string x.st) from hr 18 _ rfl) hB
      have h1 := hok.pay
      have h2 := hok.dl
      have h3 := hok.nl
      have h4 := hok.st
      have HLT := Lib.hid hlt
      clear hr hok hx hkl hB hlt
      generalize x.m.ds.length = dl at *
      generalize x.m.pay = pay at *
      generalize x.st = st at *
      generalize x.nl = nl at *
      go_upto_region 5 with (fail)
      go_cut [3] (fun s3 wx => ∃ z : Int, s3 = .int .i64 z ∧ 0 ≤ z ∧ z ≤ 40000 ∧ Below wr.heap.size wr wx)
      case first =>
        refine wp_region_bel (by kernel_rfl) (by kernel_rfl) ?_
        repeat (go_big_quiet_step ((fail)))
        refine wpQuiet_nil ?_
        intro w9 hw9
        have hb9 := Lib.hid (bel_out hw9)
        clear hw9 d11 d12 d17 d18
        have key : ∀ q : Nat, 0 ≤ (if (20000 : Int) < (q : Int) then 20000 else (q : Int)) ∧ (if (20000 : Int) < (q : Int) then 20000 else (q : Int)) ≤ 20000 := fun q => by split <;> omega
        obtain ⟨k1, k2⟩ := key pay.size
        obtain ⟨k3, k4⟩ := key dl
        obtain ⟨k5, k6⟩ := key nl
        obtain ⟨k7, k8⟩ := key st.size
        clear key h1 h2 h3 h4
        generalize (if (20000 : Int) < (pay.size : Int) then (20000 : Int) else (pay.size : Int)) = m1 at *
        generalize (if (20000 : Int) < (dl : Int) then (20000 : Int) else (dl : Int)) = m2 at *
        generalize (if (20000 : Int) < (nl : Int) then (20000 : Int) else (nl : Int)) = m3 at *
        generalize (if (20000 : Int) < (st.size : Int) then (20000 : Int) else (st.size : Int)) = m4 at *
        go_wp2_with fail
        go_meet
        exact ⟨_, rfl, by omega, by omega, hb9.out⟩
      case rest =>
      obtain ⟨z, rfl, hz0, hz1, hbx⟩ := hcut
      have HW2 := Lib.hid (bt HW.out hbx)
      clear d12 d11 d17 d18 h1 h2 h3 h4 hbx
      by_cases hc : k < 500 ∧ z ≤ 20000
      · have e1 : decide (500 ≤ (k : Int)) = false := by rw [decide_eq_false_iff_not]; omega
        have e2 : decide (20000 < z) = false := by rw [decide_eq_false_iff_not]; omega
        have HC := Lib.hid hc
        clear hc
        go_wp2_with fail
        exact ⟨⟨k + 1, z, HLT.out, HC.out.1, by go_num, rfl, hz0, HC.out.2, HW2⟩, measI HLT.out⟩
      · by_cases hk6 : k < 500
        · have e1 : decide (500 ≤ (k : Int)) = false := by rw [decide_eq_false_iff_not]; omega
          have e2 : decide (20000 < z) = true := by rw [decide_eq_true_eq]; omega
          clear hc hk6
          go_wp2_with fail
          go_ret
          exact ⟨⟨false, rfl, fun h => by cases h⟩, HW2.out⟩
        · have e1 : decide (500 ≤ (k : Int)) = true := by rw [decide_eq_true_eq]; omega
          clear hc hk6
          go_wp2_with fail
          go_ret
          exact ⟨⟨false, rfl, fun h => by cases h⟩, HW2.out⟩
    · have hbool' : decide ((k : Int) < (n : Int)) = false := by rw [decide_eq_false_iff_not]; omega
      have hbool : decide (k < n) = false := by rw [decide_eq_false_iff_not]; omega
      have HK := Lib.hid (show l.length ≤ 500 by rw [← HN.out]; omega)
      clear hlt
      go_wp2_with fail
      go_ret
      exact ⟨⟨true, rfl, fun _ => HK.out⟩, HW.out⟩
end Go.Proofs.YtogagkgkmoppmaaGreatDoor
