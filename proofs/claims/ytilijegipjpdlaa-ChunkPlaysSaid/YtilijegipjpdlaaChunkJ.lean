/-
  Arguments that are items, slices of items, slices of small numbers, opened.
  Conditions: none.
-/
import Derived.Test.YtilijegipjpdlaaChunkB
import Derived.Test.YtilijegipjpdlaaChecked
import Derived.Deep.Slices
import Derived.Deep.Fields
import Derived.ChangeSame
import Derived.Lib.SmallJoins
namespace Go.Proofs.Ytilijegipjpdlaa
set_option linter.unusedVariables false
open Go.RowKit Go.ChangeShapes Go.WideShapes Go.Deep
section
variable {H : Type} {enc : TypeId × Value → H} {w : World} {base : Nat} {spare : Nat → Bool} {held : Bool}
theorem conf_of {fuel : Nat} {v0 v1 : Value} {x : DataW H × List MemPlace} (h : DataW.trod enc Try.prog w base spare held fuel 31 [v0, v1] = some x) : ∃ a b : Int, v0 = .int .u64 a ∧ v1 = .int .i64 b := by
  obtain ⟨xs, k, hk, hxy, _, hxl, hf⟩ := DataW.trod_struct Try.underlying31 h
  have c1 : Try.prog.cellsOf 22 = 1 := by kernel_rfl
  have c2 : Try.prog.cellsOf 3 = 1 := by kernel_rfl
  match xs, hxl with
  | [y0, y1], _ =>
    have g0 := hf 0 _ rfl
    have g1 := hf 1 _ rfl
    simp [c1, c2] at g0 g1
    obtain ⟨a, e0, _⟩ := DataW.trod_int Try.underlying22 g0
    obtain ⟨b, e1, _⟩ := DataW.trod_int Try.underlying3 g1
    simp at e0 e1
    exact ⟨a, b, e0, e1⟩
theorem view_of {fuel : Nat} {v0 v1 v2 v3 : Value} {x : DataW H × List MemPlace} (h : DataW.trod enc Try.prog w base spare held fuel 33 [v0, v1, v2, v3] = some x) : ∃ a b c d : Int, v0 = .int .u64 a ∧ v1 = .int .u64 b ∧ v2 = .int .i64 c ∧ v3 = .int .u64 d := by
  obtain ⟨xs, k, hk, hxy, _, hxl, hf⟩ := DataW.trod_struct Try.underlying33 h
  have c1 : Try.prog.cellsOf 22 = 1 := by kernel_rfl
  have c2 : Try.prog.cellsOf 31 = 2 := by kernel_rfl
  match xs, hxl with
  | [y0, y1, y2], _ =>
    have g0 := hf 0 _ rfl
    have g1 := hf 1 _ rfl
    have g2 := hf 2 _ rfl
    simp [c1, c2] at g0 g1 g2
    obtain ⟨a, e0, _⟩ := DataW.trod_int Try.underlying22 g0
    obtain ⟨b, c, e1, e2⟩ := conf_of g1
    obtain ⟨d, e3, _⟩ := DataW.trod_int Try.underlying22 g2
    simp at e0 e3
    exact ⟨a, b, c, d, e0, e1, e2, e3⟩
theorem rec_of {fuel : Nat} {v0 v1 v2 v3 v4 : Value} {x : DataW H × List MemPlace} (h : DataW.trod enc Try.prog w base spare held fuel 40 [v0, v1, v2, v3, v4] = some x) : ∃ y : RecV, #[v0, v1, v2, v3, v4] = recA y := by
  obtain ⟨xs, k, hk, hxy, _, hxl, hf⟩ := DataW.trod_struct Try.underlying40 h
  have c1 : Try.prog.cellsOf 33 = 4 := by kernel_rfl
  have c2 : Try.prog.cellsOf 34 = 1 := by kernel_rfl
  match xs, hxl with
  | [y0, y1], _ =>
    have g0 := hf 0 _ rfl
    have g1 := hf 1 _ rfl
    simp [c1, c2] at g0 g1
    obtain ⟨a, b, c, d, rfl, rfl, rfl, rfl⟩ := view_of g0
    rcases open_slice Try.underlying34 g1 with ⟨h0, _⟩ | ⟨q, len, cap, m, n, D, Pl, h0, _⟩
    · simp at h0
      subst h0
      exact ⟨⟨a, b, c, d, none, 0, 0⟩, rfl⟩
    · simp at h0
      subst h0
      exact ⟨⟨a, b, c, d, some q, len, cap⟩, rfl⟩
/-- an item's facts: its number, its text's size -/
theorem item_of {fuel : Nat} {cs : List Value} {x : DataW H × List MemPlace} (hl : cs.length = 18) (h : DataW.trod enc Try.prog w base spare held fuel 42 cs = some x) :
    ∃ y : ItemV, cs = (itemA y).toList ∧ y.data.size ≤ 9223372036854775807 ∧ y.number < 18446744073709551616 := by
  obtain ⟨xs, k, hk, hxy, _, hxl, hf⟩ := DataW.trod_struct Try.underlying42 h
  have c1 : Try.prog.cellsOf 22 = 1 := by kernel_rfl
  have c2 : Try.prog.cellsOf 3 = 1 := by kernel_rfl
  have c3 : Try.prog.cellsOf 9 = 1 := by kernel_rfl
  have c4 : Try.prog.cellsOf 29 = 1 := by kernel_rfl
  have c5 : Try.prog.cellsOf 4 = 1 := by kernel_rfl
  have c6 : Try.prog.cellsOf 40 = 5 := by kernel_rfl
  have c7 : Try.prog.cellsOf 33 = 4 := by kernel_rfl
  match xs, hxl, cs, hl with
  | [y0, y1, y2, y3, y4, y5, y6, y7, y8, y9, y10], _, [v0, v1, v2, v3, v4, v5, v6, v7, v8, v9, v10, v11, v12, v13, v14, v15, v16, v17], _ =>
    have g0 := hf 0 _ rfl
    have g1 := hf 1 _ rfl
    have g2 := hf 2 _ rfl
    have g3 := hf 3 _ rfl
    have g4 := hf 4 _ rfl
    have g5 := hf 5 _ rfl
    have g6 := hf 6 _ rfl
    have g7 := hf 7 _ rfl
    have g8 := hf 8 _ rfl
    have g9 := hf 9 _ rfl
    have g10 := hf 10 _ rfl
    simp [c1, c2, c3, c4, c5, c6, c7] at g0 g1 g2 g3 g4 g5 g6 g7 g8 g9 g10
    obtain ⟨a0, e0, _⟩ := DataW.trod_int Try.underlying3 g0
    obtain ⟨a1, e1, _, hs⟩ := DataW.trod_string Try.underlying9 g1
    obtain ⟨a2, e2, _⟩ := DataW.trod_int Try.underlying29 g2
    obtain ⟨a3, e3, _⟩ := DataW.trod_int Try.underlying22 g3
    obtain ⟨a4, e4, _⟩ := DataW.trod_bool Try.underlying4 g4
    obtain ⟨a5, e5, _⟩ := DataW.trod_bool Try.underlying4 g5
    obtain ⟨a6, e6⟩ := rec_of g6
    obtain ⟨a7, b7, c7, d7, e7, f7, h7, i7⟩ := view_of g7
    obtain ⟨a8, e8, _, hn⟩ := DataW.trod_int Try.underlying22 g8
    obtain ⟨a9, e9, _⟩ := DataW.trod_int Try.underlying3 g9
    obtain ⟨a10, e10, _⟩ := DataW.trod_int Try.underlying3 g10
    simp at e0 e1 e2 e3 e4 e5 e8 e9 e10
    simp [recA] at e6
    have hn2 : 0 ≤ a8 ∧ a8 ≤ 18446744073709551615 := by have := hn; simp [Lit.wf, IntKind.min, IntKind.max, IntKind.signed, IntKind.bits] at this; exact this
    obtain ⟨n, rfl⟩ := Int.eq_ofNat_of_zero_le hn2.1
    obtain ⟨r0, r1, r2, r3, r4⟩ := e6
    subst e0 e1 e2 e3 e4 e5 e7 f7 h7 i7 e8 e9 e10 r0 r1 r2 r3 r4
    exact ⟨⟨a0, a1, a2, a3, a4, a5, a6, a7, b7, c7, d7, n, a9, a10⟩, rfl, by unfold maxLen at hs; exact hs, by show n < _; omega⟩
theorem item_arg {r : Reach} {b0 : Nat} {v : Value} {d : DataW H} {p : List MemPlace} (hv : Value.okWide Try.prog w r b0 42 v) (h : DataW.Trod enc Try.prog w base spare held 42 v d p) :
    ∃ y : ItemV, v = .agg (itemA y) ∧ y.data.size ≤ 9223372036854775807 ∧ y.number < 18446744073709551616 := by
  obtain ⟨cs, rfl, hsz⟩ := okWide_struct Try.underlying42 hv
  obtain ⟨fuel, hf⟩ := h
  have h18 : Try.prog.cellsOf 42 = 18 := by kernel_rfl
  obtain ⟨y, hy, h1, h2⟩ := item_of (cs := cs.toList) (by simpa using hsz.trans h18) hf
  exact ⟨y, by rw [show cs = itemA y from Array.ext' hy], h1, h2⟩
/-- a slice of items that is read alone -/
def LogsAt (w : World) (v : Value) (l : List ItemV) : Prop := ∃ ad cap, v = .slice ad l.length cap ∧ l.length ≤ 9223372036854775807 ∧
  ∀ i (h : i < l.length), ∃ B O, ad = some ⟨B, O, none⟩ ∧ B < w.heap.size ∧ w.rangeAt B (O + i * 18) (itemA l[i]).toList ∧ l[i].data.size ≤ 9223372036854775807 ∧ l[i].number < 18446744073709551616
instance : Inhabited ItemV := ⟨⟨0, ⟨#[]⟩, 0, 0, false, false, ⟨0, 0, 0, 0, none, 0, 0⟩, 0, 0, 0, 0, 0, 0, 0⟩⟩
theorem block_lt {w : World} {p : Addr} {v : Value} (h : w.cell? p = some v) : p.block < w.heap.size := by
  rcases Nat.lt_or_ge p.block w.heap.size with h' | h'
  · exact h'
  · obtain ⟨b, o, s⟩ := p
    simp [World.cell?, Array.getElem?_eq_none h'] at h
theorem logs_arg {r : Reach} {b0 : Nat} {v : Value} {d : DataW H} {p : List MemPlace} (hv : Value.okWide Try.prog w r b0 24 v) (h : DataW.Trod enc Try.prog w base spare held 24 v d p) : ∃ l, LogsAt w v l := by
  obtain ⟨fuel, hf⟩ := h
  obtain ⟨a', len', cap', rfl⟩ := okWide_slice Try.underlying24 hv
  have hcs : (Value.slice a' len' cap').cells.toList = [Value.slice a' len' cap'] := by simp [Value.cells]
  have h18 : Try.prog.cellsOf 42 = 18 := by kernel_rfl
  rcases open_slice Try.underlying24 hf with ⟨h0, _⟩ | ⟨a, len, cap, m, n, D, Pl, h0, hb, hl, hm, hmm, _, hx⟩
  · rw [hcs] at h0
    simp at h0
    obtain ⟨_, rfl, _⟩ := h0
    exact ⟨[], _, _, rfl, by simp, fun i h => absurd h (by simp)⟩
  · rw [hcs] at h0
    simp at h0
    obtain ⟨rfl, rfl, rfl⟩ := h0
    have hlm : len' ≤ m := by rw [hmm]; split <;> omega
    have each : ∀ i, i < len' → ∃ x : ItemV, (∀ j u, (itemA x).toList[j]? = some u → w.cell? ((a.add (i * 18)).add j) = some u) ∧ x.data.size ≤ 9223372036854775807 ∧ x.number < 18446744073709551616 := by
      intro i hi
      obtain ⟨cs', h1, h2⟩ := hx i (by omega)
      rw [h18] at h1
      obtain ⟨_, hlen, hcell⟩ := World.cells?_some h1
      obtain ⟨x, e, hq1, hq2⟩ := item_of hlen h2
      refine ⟨x, fun j u hu => ?_, hq1, hq2⟩
      rw [← e] at hu
      have hj : j < 18 := by have := (List.getElem?_eq_some_iff.1 hu).1; omega
      exact (hcell j hj).trans hu
    obtain ⟨q, hq⟩ := choose_lt each
    refine ⟨(List.range len').map q, _, _, by simp; exact ⟨rfl, rfl⟩, by simp; unfold maxLen at hm; omega, fun i hi => ?_⟩
    have hi' : i < len' := by simpa using hi
    obtain ⟨b, off, spot⟩ := a
    have hz := (hq 0 (by omega)).1 0 _ rfl
    have hspot : spot = none := by simpa [Addr.add] using World.cell?_spot hz
    subst hspot
    refine ⟨b, off, rfl, ?_, ?_, ?_⟩
    · simpa [Addr.add] using block_lt hz
    · intro j u hu
      rw [List.getElem_map, List.getElem_range] at hu
      have := (hq i hi').1 j u hu
      rw [← this]
      congr 1
      unfold Addr.add
      split <;> split <;> simp_all <;> omega
    · rw [List.getElem_map, List.getElem_range]
      exact (hq i hi').2
end
end Go.Proofs.Ytilijegipjpdlaa
