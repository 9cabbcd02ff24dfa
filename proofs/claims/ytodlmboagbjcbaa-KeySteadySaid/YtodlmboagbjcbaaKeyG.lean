/-
  Arguments that are slices of numbers, keys, configurations, opened; the law KeyAbove, ready for its row.
  Conditions: none.
-/
import Derived.Test.YtodlmboagbjcbaaKeyF
import Derived.Test.YtodlmboagbjcbaaMsgC
namespace Go.Proofs.Ytodlmboagbjcbaa
set_option linter.unusedVariables false
set_option linter.unusedSimpArgs false
open Go.RowKit Go.ChangeShapes Go.WideShapes Go.Deep
section
variable {H : Type} {enc : TypeId × Value → H} {w : World} {base : Nat} {spare : Nat → Bool} {held : Bool}
theorem nums_arg {r : Reach} {b0 : Nat} {v : Value} {d : DataW H} {p : List MemPlace} (hv : Value.okWide Try.prog w r b0 63 v) (h : DataW.Trod enc Try.prog w base spare held 63 v d p) :
    ∃ (ad : Option Addr) (cap : Nat) (l : List Int), v = .slice ad l.length cap ∧ Reads w w.heap.size 1 ad l.length (l.map fun x => .int .u64 x) ∧ ∀ x ∈ l, 0 ≤ x ∧ x ≤ 18446744073709551615 := by
  obtain ⟨fuel, hf⟩ := h
  obtain ⟨a', len', cap', rfl⟩ := okWide_slice Try.underlying63 hv
  have hcs : (Value.slice a' len' cap').cells.toList = [Value.slice a' len' cap'] := by simp [Value.cells]
  have h1 : Try.prog.cellsOf 34 = 1 := by kernel_rfl
  rcases open_slice Try.underlying63 hf with ⟨h0, _⟩ | ⟨a, len, cap, m, n, D, Pl, h0, hb, hl, hm, hmm, _, hx⟩
  · rw [hcs] at h0
    simp at h0
    obtain ⟨_, rfl, _⟩ := h0
    exact ⟨_, _, [], rfl, Reads.none_, by simp⟩
  · rw [hcs] at h0
    simp at h0
    obtain ⟨rfl, rfl, rfl⟩ := h0
    have hlm : len' ≤ m := by rw [hmm]; split <;> omega
    have each : ∀ i, i < len' → ∃ x : Int, w.cell? (a.add i) = some (.int .u64 x) ∧ 0 ≤ x ∧ x ≤ 18446744073709551615 := by
      intro i hi
      obtain ⟨cs', hc1, hc2⟩ := hx i (by omega)
      rw [h1, Nat.mul_one] at hc1
      obtain ⟨_, hlen, hcell⟩ := World.cells?_some hc1
      match cs', hlen with
      | [u], _ =>
        obtain ⟨z, e, _, hz⟩ := DataW.trod_int Try.underlying34 hc2
        simp at e
        subst e
        have hz2 : 0 ≤ z ∧ z ≤ 18446744073709551615 := by have := hz; simp [Lit.wf, IntKind.min, IntKind.max, IntKind.signed, IntKind.bits] at this; exact this
        have := hcell 0 (by simp)
        simp [Addr.add] at this
        exact ⟨z, by simpa [Addr.add] using this, hz2⟩
    obtain ⟨q, hq⟩ := choose_lt each
    have hlen : ((List.range len').map q).length = len' := by simp
    refine ⟨some a, _, (List.range len').map q, by rw [hlen], ⟨by simp, fun hn => ⟨a, rfl, ?_, ?_⟩⟩, ?_⟩
    · rw [hlen] at hn
      have := block_lt (hq 0 hn).1
      rwa [show (a.add 0).block = a.block from by unfold Addr.add; split <;> rfl] at this
    · intro j u hu
      rw [List.map_map, List.getElem?_map] at hu
      obtain ⟨y, hy, rfl⟩ := Option.map_eq_some_iff.1 hu
      obtain ⟨hj, hy⟩ := List.getElem?_eq_some_iff.1 hy
      rw [List.getElem_range] at hy
      subst hy
      simp at hj
      exact (hq j hj).1
    · intro t ht
      obtain ⟨j, hj, rfl⟩ := List.mem_map.1 ht
      exact (hq j (by simpa using hj)).2
theorem key_of {fuel : Nat} {v0 v1 : Value} {x : DataW H × List MemPlace} (h : DataW.trod enc Try.prog w base spare held fuel 56 [v0, v1] = some x) : ∃ a b : Int, v0 = .int .u64 a ∧ v1 = .int .i64 b := by
  obtain ⟨xs, k, hk, hxy, _, hxl, hf⟩ := DataW.trod_struct Try.underlying56 h
  have c1 : Try.prog.cellsOf 34 = 1 := by kernel_rfl
  have c2 : Try.prog.cellsOf 3 = 1 := by kernel_rfl
  match xs, hxl with
  | [y0, y1], _ =>
    have g0 := hf 0 _ rfl
    have g1 := hf 1 _ rfl
    simp [c1, c2] at g0 g1
    obtain ⟨a, e0, _⟩ := DataW.trod_int Try.underlying34 g0
    obtain ⟨b, e1, _⟩ := DataW.trod_int Try.underlying3 g1
    simp at e0 e1
    exact ⟨a, b, e0, e1⟩
theorem keys_arg {r : Reach} {b0 : Nat} {v : Value} {d : DataW H} {p : List MemPlace} (hv : Value.okWide Try.prog w r b0 67 v) (h : DataW.Trod enc Try.prog w base spare held 67 v d p) :
    ∃ (ad : Option Addr) (cap : Nat) (l : List (Int × Int)), v = .slice ad l.length cap ∧ Reads w w.heap.size 2 ad l.length (keysV l) := by
  obtain ⟨fuel, hf⟩ := h
  obtain ⟨a', len', cap', rfl⟩ := okWide_slice Try.underlying67 hv
  have hcs : (Value.slice a' len' cap').cells.toList = [Value.slice a' len' cap'] := by simp [Value.cells]
  have h2 : Try.prog.cellsOf 56 = 2 := by kernel_rfl
  rcases open_slice Try.underlying67 hf with ⟨h0, _⟩ | ⟨a, len, cap, m, n, D, Pl, h0, hb, hl, hm, hmm, _, hx⟩
  · rw [hcs] at h0
    simp at h0
    obtain ⟨_, rfl, _⟩ := h0
    exact ⟨_, _, [], rfl, Reads.none_⟩
  · rw [hcs] at h0
    simp at h0
    obtain ⟨rfl, rfl, rfl⟩ := h0
    have hlm : len' ≤ m := by rw [hmm]; split <;> omega
    have each : ∀ i, i < len' → ∃ x : Int × Int, w.cell? (a.add (i * 2)) = some (.int .u64 x.1) ∧ w.cell? (a.add (i * 2 + 1)) = some (.int .i64 x.2) := by
      intro i hi
      obtain ⟨cs', hc1, hc2⟩ := hx i (by omega)
      rw [h2] at hc1
      obtain ⟨_, hlen, hcell⟩ := World.cells?_some hc1
      match cs', hlen with
      | [u0, u1], _ =>
        obtain ⟨x, y, e0, e1⟩ := key_of hc2
        refine ⟨(x, y), ?_, ?_⟩
        · have := hcell 0 (by omega)
          rw [add_of_add] at this
          rw [show i * 2 + 0 = i * 2 from rfl] at this
          rw [this]
          show some u0 = _
          rw [e0]
        · have := hcell 1 (by omega)
          rw [add_of_add] at this
          rw [this]
          show some u1 = _
          rw [e1]
    obtain ⟨q, hq⟩ := choose_lt each
    have hlen : ((List.range len').map q).length = len' := by simp
    refine ⟨some a, _, (List.range len').map q, by rw [hlen], by rw [keysV_len], fun hn => ⟨a, rfl, ?_, ?_⟩⟩
    · rw [hlen] at hn
      have := block_lt (hq 0 hn).1
      rwa [show (a.add (0 * 2)).block = a.block from by unfold Addr.add; split <;> rfl] at this
    · intro j u hu
      have hj : j < len' * 2 := by
        have := (List.getElem?_eq_some_iff.1 hu).1
        rwa [keysV_len, hlen] at this
      have hi : j / 2 < ((List.range len').map q).length := by rw [hlen]; omega
      obtain ⟨k0, k1⟩ := keysV_at ((List.range len').map q) (j / 2) hi
      have hget : ((List.range len').map q)[j / 2] = q (j / 2) := by rw [List.getElem_map, List.getElem_range]
      rw [hget] at k0 k1
      obtain ⟨q0, q1⟩ := hq (j / 2) (by omega)
      rcases Nat.mod_two_eq_zero_or_one j with e | e
      · have ej : j = j / 2 * 2 + 0 := by omega
        rw [ej] at hu
        rw [k0] at hu
        rw [ej, Nat.add_zero, q0]
        exact hu
      · have ej : j = j / 2 * 2 + 1 := by omega
        rw [ej] at hu
        rw [k1] at hu
        rw [ej, q1]
        exact hu
theorem conf_of {fuel : Nat} {v0 v1 : Value} {x : DataW H × List MemPlace} (h : DataW.trod enc Try.prog w base spare held fuel 58 [v0, v1] = some x) : ∃ a b : Int, v0 = .int .u64 a ∧ v1 = .int .i64 b := by
  obtain ⟨xs, k, hk, hxy, _, hxl, hf⟩ := DataW.trod_struct Try.underlying58 h
  have c1 : Try.prog.cellsOf 34 = 1 := by kernel_rfl
  have c2 : Try.prog.cellsOf 3 = 1 := by kernel_rfl
  match xs, hxl with
  | [y0, y1], _ =>
    have g0 := hf 0 _ rfl
    have g1 := hf 1 _ rfl
    simp [c1, c2] at g0 g1
    obtain ⟨a, e0, _⟩ := DataW.trod_int Try.underlying34 g0
    obtain ⟨b, e1, _⟩ := DataW.trod_int Try.underlying3 g1
    simp at e0 e1
    exact ⟨a, b, e0, e1⟩
theorem confs_arg {r : Reach} {b0 : Nat} {v : Value} {d : DataW H} {p : List MemPlace} (hv : Value.okWide Try.prog w r b0 68 v) (h : DataW.Trod enc Try.prog w base spare held 68 v d p) :
    ∃ (ad : Option Addr) (cap : Nat) (l : List (Int × Int)), v = .slice ad l.length cap ∧ Reads w w.heap.size 2 ad l.length (keysV l) := by
  obtain ⟨fuel, hf⟩ := h
  obtain ⟨a', len', cap', rfl⟩ := okWide_slice Try.underlying68 hv
  have hcs : (Value.slice a' len' cap').cells.toList = [Value.slice a' len' cap'] := by simp [Value.cells]
  have h2 : Try.prog.cellsOf 58 = 2 := by kernel_rfl
  rcases open_slice Try.underlying68 hf with ⟨h0, _⟩ | ⟨a, len, cap, m, n, D, Pl, h0, hb, hl, hm, hmm, _, hx⟩
  · rw [hcs] at h0
    simp at h0
    obtain ⟨_, rfl, _⟩ := h0
    exact ⟨_, _, [], rfl, Reads.none_⟩
  · rw [hcs] at h0
    simp at h0
    obtain ⟨rfl, rfl, rfl⟩ := h0
    have hlm : len' ≤ m := by rw [hmm]; split <;> omega
    have each : ∀ i, i < len' → ∃ x : Int × Int, w.cell? (a.add (i * 2)) = some (.int .u64 x.1) ∧ w.cell? (a.add (i * 2 + 1)) = some (.int .i64 x.2) := by
      intro i hi
      obtain ⟨cs', hc1, hc2⟩ := hx i (by omega)
      rw [h2] at hc1
      obtain ⟨_, hlen, hcell⟩ := World.cells?_some hc1
      match cs', hlen with
      | [u0, u1], _ =>
        obtain ⟨x, y, e0, e1⟩ := conf_of hc2
        refine ⟨(x, y), ?_, ?_⟩
        · have := hcell 0 (by omega)
          rw [add_of_add] at this
          rw [show i * 2 + 0 = i * 2 from rfl] at this
          rw [this]
          show some u0 = _
          rw [e0]
        · have := hcell 1 (by omega)
          rw [add_of_add] at this
          rw [this]
          show some u1 = _
          rw [e1]
    obtain ⟨q, hq⟩ := choose_lt each
    have hlen : ((List.range len').map q).length = len' := by simp
    refine ⟨some a, _, (List.range len').map q, by rw [hlen], by rw [keysV_len], fun hn => ⟨a, rfl, ?_, ?_⟩⟩
    · rw [hlen] at hn
      have := block_lt (hq 0 hn).1
      rwa [show (a.add (0 * 2)).block = a.block from by unfold Addr.add; split <;> rfl] at this
    · intro j u hu
      have hj : j < len' * 2 := by
        have := (List.getElem?_eq_some_iff.1 hu).1
        rwa [keysV_len, hlen] at this
      have hi : j / 2 < ((List.range len').map q).length := by rw [hlen]; omega
      obtain ⟨k0, k1⟩ := keysV_at ((List.range len').map q) (j / 2) hi
      have hget : ((List.range len').map q)[j / 2] = q (j / 2) := by rw [List.getElem_map, List.getElem_range]
      rw [hget] at k0 k1
      obtain ⟨q0, q1⟩ := hq (j / 2) (by omega)
      rcases Nat.mod_two_eq_zero_or_one j with e | e
      · have ej : j = j / 2 * 2 + 0 := by omega
        rw [ej] at hu
        rw [k0] at hu
        rw [ej, Nat.add_zero, q0]
        exact hu
      · have ej : j = j / 2 * 2 + 1 := by omega
        rw [ej] at hu
        rw [k1] at hu
        rw [ej, q1]
        exact hu
end
theorem row_keyAbove {H : Type} {enc : TypeId × Value → H} {r : Reach} {b0 base : Nat} {spare : Nat → Bool} {held : Bool} {d : DataW H} {p : List MemPlace} (v : Value) (W : World)
    (hv : Value.okWide Try.prog W r b0 63 v) (h : DataW.Trod enc Try.prog W base spare held 63 v d p) :
    Calls Try.prog 9 #[v] W fun e w' => e = .returned (.bool true) ∧ Below W.heap.size W w' := by
  obtain ⟨ad, cap, l, rfl, hr, hx⟩ := nums_arg hv h
  exact law_keyAbove l ad cap W hr hx
end Go.Proofs.Ytodlmboagbjcbaa
