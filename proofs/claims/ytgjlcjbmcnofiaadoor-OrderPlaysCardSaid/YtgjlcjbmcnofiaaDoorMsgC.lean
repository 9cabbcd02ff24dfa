/-
  What the laws' Few returns; arguments that are messages, or slices of them.
  Conditions: none.
-/
import Derived.Test.YtgjlcjbmcnofiaaDoorMsgB
namespace Go.Proofs.YtgjlcjbmcnofiaaDoor
set_option linter.unusedVariables false
open Go.RowKit
def FewOk (l : List Msg) : Prop := l.length ≤ 300 ∧ ∀ m ∈ l, m.pay.size ≤ 20000 ∧ m.ds.length ≤ 20000
def FewEnd (l : List Msg) (e : Ending) : Prop := ∃ b, e = .returned (.bool b) ∧ (b = true → FewOk l)
set_option maxRecDepth 100000 in
set_option maxHeartbeats 2000000 in
theorem Few_any (v : Value) (l : List Msg) (w : World) (h : MsgsAt w v l) :
    Calls Tryd.prog 43 #[v] w fun e w' => FewEnd l e ∧ Below w.heap.size w w' := by
  obtain ⟨ad, cap, rfl, hl, hc⟩ := h
  have HC := Lib.hid hc
  clear hc
  go_enter Tryd.func43, Tryd.ntmps43
  go_wp2
  go_loopw [3, 4] (fun m i wr => ∃ k n : Nat, k ≤ l.length ∧ k ≤ 300 ∧ n ≤ 20000 ∧ i = .int .i64 (k : Int) ∧ m = .int .i64 (n : Int) ∧ (∀ q (hq : q < l.length), q < k → l[q].pay.size ≤ 20000 ∧ l[q].ds.length ≤ 20000) ∧ Below w.heap.size w wr) (fun _ i _ => l.length - (intOf i).toNat)
  case atStart => exact ⟨0, 0, by omega, by omega, by omega, rfl, rfl, by intro q hq h; omega, br _⟩
  case round =>
    obtain ⟨k, n, hk, hk2, hn, rfl, rfl, hall, hbr⟩ := hrel
    have HA := Lib.hid (And.intro hall hbr)
    by_cases hlt : k < l.length
    · have hd : decide ((k : Int) < (l.length : Int)) = true := by simpa using hlt
      have hi1 : (k : Int) < (l.length : Int) := by omega
      obtain ⟨B, O, rfl, hB, hr, hm⟩ := HC.out k hlt
      have hz := Lib.hid (show ∀ q (hq : q < l.length), q < k + 1 → l[k].pay.size ≤ 20000 → l[k].ds.length ≤ 20000 → l[q].pay.size ≤ 20000 ∧ l[q].ds.length ≤ 20000 from fun q hq hq1 h1 h2 => by
        by_cases hqk : q = k
        · subst hqk; exact ⟨h1, h2⟩
        · exact HA.out.1 q hq (by omega))
      have c4 : wr.cell? ⟨B, O + k * 6 + 4, none⟩ = some (.slice l[k].da l[k].ds.length l[k].dc) := (hbr.cell (p := ⟨B, O + k * 6 + 4, none⟩) hB).trans (hr 4 _ rfl)
      have c5 : wr.cell? ⟨B, O + k * 6 + 5, none⟩ = some (.string l[k].pay) := (hbr.cell (p := ⟨B, O + k * 6 + 5, none⟩) hB).trans (hr 5 _ rfl)
      have m1 := hm.1
      have m2 := hm.2.1
      clear hall hbr hr hm
      generalize l[k] = x at *
      by_cases h1 : (x.pay.size : Int) ≤ 20000
      all_goals by_cases h2 : (x.ds.length : Int) ≤ 20000
      all_goals
        go_wp2_with fail
        go_quiet (fail)
        go_wp2
        all_goals first
          | (go_ret; exact ⟨⟨_, rfl, fun h => by cases h⟩, bn HA.out.2 _⟩)
          | skip
      all_goals exact ⟨⟨k + 1, n + 1 + x.pay.size + x.ds.length, by omega, by omega, by omega, by go_num, by go_num, fun q hq h => hz.out q hq h (by omega) (by omega), bn HA.out.2 _⟩, by simp [intOf]; omega⟩
    · have hd : decide ((k : Int) < (l.length : Int)) = false := by simpa using hlt
      go_wp2
      go_ret
      refine ⟨⟨_, rfl, fun _ => ⟨by omega, ?_⟩⟩, HA.out.2⟩
      intro m hm
      obtain ⟨q, hq, rfl⟩ := List.mem_iff_getElem.1 hm
      exact HA.out.1 q hq (by omega)
section
open Go.ChangeShapes Go.WideShapes Go.Deep
variable {H : Type} {enc : TypeId × Value → H} {w : World} {base : Nat} {spare : Nat → Bool} {held : Bool}
theorem block_lt {w : World} {p : Addr} {v : Value} (h : w.cell? p = some v) : p.block < w.heap.size := by
  rcases Nat.lt_or_ge p.block w.heap.size with h' | h'
  · exact h'
  · obtain ⟨b, o, s⟩ := p
    simp [World.cell?, Array.getElem?_eq_none h'] at h
set_option maxRecDepth 100000 in
/-- a vector of numbers -/
theorem deps_of {fuel : Nat} {v : Value} {x : DataW H × List MemPlace} (h : DataW.trod enc Tryd.prog w base spare held fuel 40 [v] = some x) :
    ∃ (ad : Option Addr) (ds : List Nat) (cap : Nat), v = .slice ad ds.length cap ∧ ds.length ≤ 9223372036854775807 ∧ ∀ i (h : i < ds.length), ∃ B O, ad = some ⟨B, O, none⟩ ∧ B < w.heap.size ∧ w.cell? ⟨B, O + i, none⟩ = some (.int .u32 (ds[i] : Int)) := by
  have h1 : Tryd.prog.cellsOf 33 = 1 := by kernel_rfl
  rcases open_slice Tryd.underlying40 h with ⟨h0, _⟩ | ⟨a, len, cap, m, n, D, Pl, h0, hb, hl, hm, hmm, _, hx⟩
  · simp at h0
    subst h0
    exact ⟨none, [], 0, rfl, by simp, fun i h => absurd h (by simp)⟩
  · simp at h0
    subst h0
    have hlm : len ≤ m := by rw [hmm]; split <;> omega
    have each : ∀ i, i < len → ∃ x : Nat, w.cell? (a.add i) = some (.int .u32 (x : Int)) ∧ x < 4294967296 := by
      intro i hi
      obtain ⟨cs', hc1, hc2⟩ := hx i (by omega)
      rw [h1, Nat.mul_one] at hc1
      obtain ⟨_, hlen, hcell⟩ := World.cells?_some hc1
      match cs', hlen with
      | [u], _ =>
        obtain ⟨z, e, _, hz⟩ := DataW.trod_int Tryd.underlying33 hc2
        simp at e
        subst e
        have hz2 : 0 ≤ z ∧ z ≤ 4294967295 := by have := hz; simp [Lit.wf, IntKind.min, IntKind.max, IntKind.signed, IntKind.bits] at this; exact this
        have := hcell 0 (by simp)
        simp [Addr.add] at this
        exact ⟨z.toNat, by rw [show ((z.toNat : Nat) : Int) = z from by omega]; simpa [Addr.add] using this, by omega⟩
    obtain ⟨q, hq⟩ := choose_lt each
    refine ⟨some a, (List.range len).map q, cap, by simp, by simp; unfold maxLen at hm; omega, fun i hi => ?_⟩
    have hi' : i < len := by simpa using hi
    obtain ⟨b, off, spot⟩ := a
    have hz := (hq 0 (by omega)).1
    have hspot : spot = none := by simpa [Addr.add] using World.cell?_spot hz
    subst hspot
    rw [List.getElem_map, List.getElem_range]
    refine ⟨b, off, rfl, by simpa [Addr.add] using block_lt hz, ?_⟩
    have := (hq i hi').1
    rw [← this]
    congr 1
    unfold Addr.add
    split <;> simp_all
set_option maxRecDepth 100000 in
theorem msg_of {fuel : Nat} {cs : List Value} {x : DataW H × List MemPlace} (hl : cs.length = 6) (h : DataW.trod enc Tryd.prog w base spare held fuel 42 cs = some x) :
    ∃ m : Msg, cs = (msgA m).toList ∧ MsgOk w m := by
  obtain ⟨xs, k, hk, hxy, _, hxl, hf⟩ := DataW.trod_struct Tryd.underlying42 h
  have c1 : Tryd.prog.cellsOf 36 = 1 := by kernel_rfl
  have c2 : Tryd.prog.cellsOf 3 = 1 := by kernel_rfl
  have c3 : Tryd.prog.cellsOf 9 = 1 := by kernel_rfl
  have c4 : Tryd.prog.cellsOf 33 = 1 := by kernel_rfl
  have c5 : Tryd.prog.cellsOf 40 = 1 := by kernel_rfl
  match xs, hxl, cs, hl with
  | [y0, y1, y2, y3, y4, y5], _, [v0, v1, v2, v3, v4, v5], _ =>
    have g0 := hf 0 _ rfl
    have g1 := hf 1 _ rfl
    have g2 := hf 2 _ rfl
    have g3 := hf 3 _ rfl
    have g4 := hf 4 _ rfl
    have g5 := hf 5 _ rfl
    simp [c1, c2, c3, c4, c5] at g0 g1 g2 g3 g4 g5
    obtain ⟨a0, e0, _⟩ := DataW.trod_int Tryd.underlying3 g0
    obtain ⟨a1, e1, _, hq⟩ := DataW.trod_int Tryd.underlying33 g1
    obtain ⟨a2, e2, _, hn⟩ := DataW.trod_int Tryd.underlying36 g2
    obtain ⟨a3, e3, _⟩ := DataW.trod_int Tryd.underlying3 g3
    obtain ⟨ad, ds, dc, e4, hd1, hd2⟩ := deps_of g4
    obtain ⟨a5, e5, _, hs⟩ := DataW.trod_string Tryd.underlying9 g5
    simp at e0 e1 e2 e3 e5
    have hn2 : 0 ≤ a2 ∧ a2 ≤ 18446744073709551615 := by have := hn; simp [Lit.wf, IntKind.min, IntKind.max, IntKind.signed, IntKind.bits] at this; exact this
    have hq2 : 0 ≤ a1 ∧ a1 ≤ 4294967295 := by have := hq; simp [Lit.wf, IntKind.min, IntKind.max, IntKind.signed, IntKind.bits] at this; exact this
    obtain ⟨n, rfl⟩ := Int.eq_ofNat_of_zero_le hn2.1
    obtain ⟨q, rfl⟩ := Int.eq_ofNat_of_zero_le hq2.1
    subst e0 e1 e2 e3 e4 e5
    exact ⟨⟨a0, q, n, a3, ds, a5, ad, dc⟩, rfl, hd1, by unfold maxLen at hs; exact hs, by show q < _; omega, by show n < _; omega, hd2⟩
set_option maxRecDepth 100000 in
theorem msg_arg {r : Reach} {b0 : Nat} {v : Value} {d : DataW H} {p : List MemPlace} (hv : Value.okWide Tryd.prog w r b0 42 v) (h : DataW.Trod enc Tryd.prog w base spare held 42 v d p) : ∃ m : Msg, v = .agg (msgA m) ∧ MsgOk w m := by
  obtain ⟨cs, rfl, hsz⟩ := okWide_struct Tryd.underlying42 hv
  obtain ⟨fuel, hf⟩ := h
  have h6 : Tryd.prog.cellsOf 42 = 6 := by kernel_rfl
  obtain ⟨y, hy, h1⟩ := msg_of (cs := cs.toList) (by simpa using hsz.trans h6) hf
  exact ⟨y, by rw [show cs = msgA y from Array.ext' hy], h1⟩
set_option maxRecDepth 100000 in
theorem msgs_arg {r : Reach} {b0 : Nat} {v : Value} {d : DataW H} {p : List MemPlace} (hv : Value.okWide Tryd.prog w r b0 27 v) (h : DataW.Trod enc Tryd.prog w base spare held 27 v d p) : ∃ l, MsgsAt w v l := by
  obtain ⟨fuel, hf⟩ := h
  obtain ⟨a', len', cap', rfl⟩ := okWide_slice Tryd.underlying27 hv
  have hcs : (Value.slice a' len' cap').cells.toList = [Value.slice a' len' cap'] := by simp [Value.cells]
  have h6 : Tryd.prog.cellsOf 42 = 6 := by kernel_rfl
  rcases open_slice Tryd.underlying27 hf with ⟨h0, _⟩ | ⟨a, len, cap, m, n, D, Pl, h0, hb, hl, hm, hmm, _, hx⟩
  · rw [hcs] at h0
    simp at h0
    obtain ⟨_, rfl, _⟩ := h0
    exact ⟨[], _, _, rfl, by simp, fun i h => absurd h (by simp)⟩
  · rw [hcs] at h0
    simp at h0
    obtain ⟨rfl, rfl, rfl⟩ := h0
    have hlm : len' ≤ m := by rw [hmm]; split <;> omega
    have each : ∀ i, i < len' → ∃ x : Msg, (∀ j u, (msgA x).toList[j]? = some u → w.cell? ((a.add (i * 6)).add j) = some u) ∧ MsgOk w x := by
      intro i hi
      obtain ⟨cs', h1, h2⟩ := hx i (by omega)
      rw [h6] at h1
      obtain ⟨_, hlen, hcell⟩ := World.cells?_some h1
      obtain ⟨x, e, hq⟩ := msg_of hlen h2
      refine ⟨x, fun j u hu => ?_, hq⟩
      rw [← e] at hu
      have hj : j < 6 := by have := (List.getElem?_eq_some_iff.1 hu).1; omega
      exact (hcell j hj).trans hu
    obtain ⟨q, hq⟩ := choose_lt each
    refine ⟨(List.range len').map q, _, _, by simp; exact ⟨rfl, rfl⟩, by simp; unfold maxLen at hm; omega, fun i hi => ?_⟩
    have hi' : i < len' := by simpa using hi
    obtain ⟨b, off, spot⟩ := a
    have hz := (hq 0 (by omega)).1 0 _ rfl
    have hspot : spot = none := by simpa [Addr.add] using World.cell?_spot hz
    subst hspot
    refine ⟨b, off, rfl, ?_, ?_, ?_⟩
    · simpa [Addr.add] using block_lt hz
    · intro j u hu
      rw [List.getElem_map, List.getElem_range] at hu
      have := (hq i hi').1 j u hu
      rw [← this]
      congr 1
      unfold Addr.add
      split <;> split <;> simp_all <;> omega
    · rw [List.getElem_map, List.getElem_range]
      exact (hq i hi').2
end
end Go.Proofs.YtgjlcjbmcnofiaaDoor
