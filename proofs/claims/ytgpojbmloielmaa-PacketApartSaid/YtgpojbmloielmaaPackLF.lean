/-
  PacketApart's copy: rows of its own, whose numbers may be written over.
  Conditions: none.
-/
import Derived.Test.YtgpojbmloielmaaPackLD
namespace Go.Proofs.Ytgpojbmloielmaa
set_option linter.unusedVariables false
set_option linter.unusedSimpArgs false
open Go.RowKit
/-- a row of numbers, any numbers, in a block from B on -/
def WkN (B : Nat) (w : World) (ad : Option Addr) (n : Nat) : Prop := 0 < n → ∃ g cs, ad = some ⟨g, 0, none⟩ ∧ B ≤ g ∧ w.heap[g]? = some (.cells cs 29 (0, 0)) ∧ ∀ j, j < n → ∃ x : Int, cs[j]? = some (.int .u32 x)
/-- a packet's rows, from B on, whatever their numbers are -/
structure WkP (B : Nat) (w : World) (q : Pkt) : Prop where
  got : WkN B w q.ga q.got.length
  ds : WkN B w q.m.da q.m.ds.length
  row : 0 < q.xs.length → ∃ g cur, q.xa = some ⟨g, 0, none⟩ ∧ B ≤ g ∧ w.heap[g]? = some (.cells cur 51 (0, 0)) ∧ ∀ i (h : i < q.xs.length), (∃ x : Int, cur[i * 6]? = some (.int .i64 x)) ∧ cur[i * 6 + 3]? = some (.slice q.xs[i].ca q.xs[i].cs.length q.xs[i].cc)
  cs : ∀ x ∈ q.xs, WkN B w x.ca x.cs.length
theorem WkN.setNum {B : Nat} {w : World} {ad : Option Addr} {n : Nat} (h : WkN B w ad n) {b j : Nat} {cs : Array Value} (hb : w.heap[b]? = some (.cells cs 29 (0, 0))) (y : Int) : WkN B (w.setCell ⟨b, j, none⟩ (.int .u32 y)) ad n := by
  intro hd
  obtain ⟨b', cs', e, hB, h1, h2⟩ := h hd
  by_cases hbb : b' = b
  · subst hbb
    rw [hb] at h1
    injection h1 with h1
    injection h1 with h1
    subst h1
    refine ⟨b', _, e, hB, setCell_block hb j _, fun i hi => ?_⟩
    obtain ⟨x, hx⟩ := h2 i hi
    by_cases hij : j = i
    · subst hij
      exact ⟨y, by rw [Array.getElem?_setIfInBounds_self_of_lt (Array.getElem?_eq_some_iff.1 hx).1]⟩
    · exact ⟨x, by rw [Array.getElem?_setIfInBounds_ne hij]; exact hx⟩
  · exact ⟨b', cs', e, hB, (heap_setCell_other w ⟨b, j, none⟩ b' _ hbb).trans h1, h2⟩
theorem WkN.setEx {B : Nat} {w : World} {ad : Option Addr} {n : Nat} (h : WkN B w ad n) {b j : Nat} {cs : Array Value} (hb : w.heap[b]? = some (.cells cs 51 (0, 0))) (u : Value) : WkN B (w.setCell ⟨b, j, none⟩ u) ad n := by
  intro hd
  obtain ⟨b', cs', e, hB, h1, h2⟩ := h hd
  have hne : b' ≠ b := by rintro rfl; rw [h1] at hb; injection hb with hb; injection hb with _ hb; exact absurd hb (by decide)
  exact ⟨b', cs', e, hB, (heap_setCell_other w ⟨b, j, none⟩ b' _ hne).trans h1, h2⟩
theorem WkP.setNum {B : Nat} {w : World} {q : Pkt} (h : WkP B w q) {b j : Nat} {cs : Array Value} (hb : w.heap[b]? = some (.cells cs 29 (0, 0))) (y : Int) : WkP B (w.setCell ⟨b, j, none⟩ (.int .u32 y)) q := by
  refine ⟨h.got.setNum hb y, h.ds.setNum hb y, fun hl => ?_, fun x hx => (h.cs x hx).setNum hb y⟩
  obtain ⟨g, cur, e, hB, h1, h2⟩ := h.row hl
  have hne : g ≠ b := by rintro rfl; rw [hb] at h1; injection h1 with h1; injection h1 with _ h1; exact absurd h1 (by decide)
  exact ⟨g, cur, e, hB, (heap_setCell_other w ⟨b, j, none⟩ g _ hne).trans h1, h2⟩
theorem WkP.setWho {B : Nat} {w : World} {q : Pkt} (h : WkP B w q) {g i : Nat} (hg : q.xa = some ⟨g, 0, none⟩) (hi : i < q.xs.length) (y : Int) : WkP B (w.setCell ⟨g, i * 6, none⟩ (.int .i64 y)) q := by
  obtain ⟨g', cur, e, hB, h1, h2⟩ := h.row (by omega)
  rw [hg] at e
  injection e with e
  injection e with e
  subst e
  refine ⟨h.got.setEx h1 _, h.ds.setEx h1 _, fun hl => ⟨g, _, hg, hB, setCell_block h1 (i * 6) _, fun k hk => ?_⟩, fun x hx => (h.cs x hx).setEx h1 _⟩
  obtain ⟨⟨x, h3⟩, h4⟩ := h2 k hk
  refine ⟨?_, by rw [Array.getElem?_setIfInBounds_ne (by omega)]; exact h4⟩
  by_cases hik : i = k
  · subst hik
    exact ⟨y, by rw [Array.getElem?_setIfInBounds_self_of_lt (Array.getElem?_eq_some_iff.1 h3).1]⟩
  · exact ⟨x, by rw [Array.getElem?_setIfInBounds_ne (by omega)]; exact h3⟩
theorem WkN.of_own {B : Nat} {w : World} {da : Option Addr} {ds : List Nat} {dc : Nat} (h : OwnN B w da ds dc) : WkN B w da ds.length := by
  intro hd
  rcases h.2 with ⟨_, h0⟩ | ⟨g, cap', cur, e, hB, hh, _, _, _, ht⟩
  · have : ds.length = 0 := h0
    omega
  · injection e with e
    refine ⟨g, cur, e, hB, hh, fun j hj => ⟨(ds[j] : Int), ?_⟩⟩
    have h4 : (numsM ds)[j]? = some (.int .u32 (ds[j] : Int)) := by unfold numsM; rw [List.getElem?_map, List.getElem?_eq_getElem hj]; rfl
    rw [← ht, List.getElem?_take] at h4
    split at h4
    · simpa using h4
    · cases h4
theorem WkP.of_own {B : Nat} {w : World} {q : Pkt} (h : OwnPk B w q) : WkP B w q := by
  refine ⟨.of_own h.got, .of_own h.ds, fun hl => ?_, fun x hx => .of_own (h.cs x hx)⟩
  rcases h.xs.2 with ⟨_, h0⟩ | ⟨g, cap', cur, e, hB, hh, _, _, _, ht⟩
  · have : q.xs.length = 0 := h0
    omega
  · injection e with e
    refine ⟨g, cur, e, hB, hh, fun i hi => ?_⟩
    have h0 := exsM_at q.xs i hi 0 (.int .i64 q.xs[i].who) rfl
    have h3 := exsM_at q.xs i hi 3 (.slice q.xs[i].ca q.xs[i].cs.length q.xs[i].cc) rfl
    rw [← ht, List.getElem?_take] at h0 h3
    split at h0
    · split at h3
      · exact ⟨⟨_, by simpa using h0⟩, by simpa using h3⟩
      · cases h3
    · cases h0
theorem WkN.below {B : Nat} {w w' : World} {ad : Option Addr} {n : Nat} (h : WkN B w ad n) (hb : Below w.heap.size w w') : WkN B w' ad n := by
  intro hd
  obtain ⟨g, cs, e, hB, h1, h2⟩ := h hd
  exact ⟨g, cs, e, hB, (hb.block _ (Array.getElem?_eq_some_iff.1 h1).1).trans h1, h2⟩
theorem WkP.below {B : Nat} {w w' : World} {q : Pkt} (h : WkP B w q) (hb : Below w.heap.size w w') : WkP B w' q := by
  refine ⟨h.got.below hb, h.ds.below hb, fun hl => ?_, fun x hx => (h.cs x hx).below hb⟩
  obtain ⟨g, cur, e, hB, h1, h2⟩ := h.row hl
  exact ⟨g, cur, e, hB, (hb.block _ (Array.getElem?_eq_some_iff.1 h1).1).trans h1, h2⟩
theorem WkP.drewN {B : Nat} {w : World} {q : Pkt} (h : WkP B w q) (n : Nat) : WkP B (w.drewN n) q := ⟨h.got, h.ds, h.row, h.cs⟩
/-- the law's state while it writes the copy over: the copy's variable is G, its rows lie from B on -/
structure ApSt (B G : Nat) (w0 w : World) (q : Pkt) : Prop where
  rows : WkP B w q
  var : w.heap[G]? = some (.cells (pktA q) 35 (0, 0))
  bel : Below B w0 w
theorem ApSt.drewN {B G : Nat} {w0 w : World} {q : Pkt} (h : ApSt B G w0 w q) (n : Nat) : ApSt B G w0 (w.drewN n) q := ⟨h.rows.drewN n, h.var, ⟨h.bel.os, h.bel.tape, h.bel.output, h.bel.size, h.bel.block⟩⟩
theorem ApSt.setNum {B G : Nat} {w0 w : World} {q : Pkt} (h : ApSt B G w0 w q) {b j : Nat} {cs : Array Value} (hB : B ≤ b) (hb : w.heap[b]? = some (.cells cs 29 (0, 0))) (y : Int) : ApSt B G w0 (w.setCell ⟨b, j, none⟩ (.int .u32 y)) q := by
  have hne : G ≠ b := by rintro rfl; have h1 := h.var; rw [hb] at h1; injection h1 with h1; injection h1 with _ h1; exact absurd h1 (by decide)
  exact ⟨h.rows.setNum hb y, (heap_setCell_other w ⟨b, j, none⟩ G _ hne).trans h.var, h.bel.setCell (p := ⟨b, j, none⟩) hB _⟩
theorem ApSt.setWho {B G : Nat} {w0 w : World} {q : Pkt} (h : ApSt B G w0 w q) {g i : Nat} (hg : q.xa = some ⟨g, 0, none⟩) (hi : i < q.xs.length) (y : Int) : ApSt B G w0 (w.setCell ⟨g, i * 6, none⟩ (.int .i64 y)) q := by
  obtain ⟨g', cur, e, hB, h1, _⟩ := h.rows.row (by omega)
  rw [hg] at e
  injection e with e
  injection e with e
  subst e
  have hne : G ≠ g := by rintro rfl; have h2 := h.var; rw [h1] at h2; injection h2 with h2; injection h2 with _ h2; exact absurd h2 (by decide)
  exact ⟨h.rows.setWho hg hi y, (heap_setCell_other w ⟨g, i * 6, none⟩ G _ hne).trans h.var, h.bel.setCell (p := ⟨g, i * 6, none⟩) hB _⟩
end Go.Proofs.Ytgpojbmloielmaa
