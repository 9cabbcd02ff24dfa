/-
  The law StreamWhole, ready for its row: an argument that is a slice of small numbers, opened.
  Conditions: none.
-/
import Derived.Test.YtodlmboagbjcbaaStreamY
import Derived.Test.YtodlmboagbjcbaaMsgC
namespace Go.Proofs.Ytodlmboagbjcbaa
set_option linter.unusedVariables false
open Go.RowKit Go.ChangeShapes Go.WideShapes Go.Deep
section
variable {H : Type} {enc : TypeId × Value → H} {w : World} {base : Nat} {spare : Nat → Bool} {held : Bool}
theorem turns_arg {r : Reach} {b0 : Nat} {v : Value} {d : DataW H} {p : List MemPlace} (hv : Value.okWide Try.prog w r b0 49 v) (h : DataW.Trod enc Try.prog w base spare held 49 v d p) :
    ∃ (ad : Option Addr) (cap : Nat) (L : List Nat), v = .slice ad L.length cap ∧ Reads w w.heap.size 1 ad L.length (L.map fun t : Nat => .int .u16 (t : Int)) ∧ ∀ t ∈ L, t < 65536 := by
  obtain ⟨fuel, hf⟩ := h
  obtain ⟨a', len', cap', rfl⟩ := okWide_slice Try.underlying49 hv
  have hcs : (Value.slice a' len' cap').cells.toList = [Value.slice a' len' cap'] := by simp [Value.cells]
  have h1 : Try.prog.cellsOf 50 = 1 := by kernel_rfl
  rcases open_slice Try.underlying49 hf with ⟨h0, _⟩ | ⟨a, len, cap, m, n, D, Pl, h0, hb, hl, hm, hmm, _, hx⟩
  · rw [hcs] at h0
    simp at h0
    obtain ⟨_, rfl, _⟩ := h0
    exact ⟨_, _, [], rfl, Reads.none_, by simp⟩
  · rw [hcs] at h0
    simp at h0
    obtain ⟨rfl, rfl, rfl⟩ := h0
    have hlm : len' ≤ m := by rw [hmm]; split <;> omega
    have each : ∀ i, i < len' → ∃ x : Nat, w.cell? (a.add i) = some (.int .u16 (x : Int)) ∧ x < 65536 := by
      intro i hi
      obtain ⟨cs', hc1, hc2⟩ := hx i (by omega)
      rw [h1, Nat.mul_one] at hc1
      obtain ⟨_, hlen, hcell⟩ := World.cells?_some hc1
      match cs', hlen with
      | [u], _ =>
        obtain ⟨z, e, _, hz⟩ := DataW.trod_int Try.underlying50 hc2
        simp at e
        subst e
        have hz2 : 0 ≤ z ∧ z ≤ 65535 := by have := hz; simp [Lit.wf, IntKind.min, IntKind.max, IntKind.signed, IntKind.bits] at this; exact this
        have := hcell 0 (by simp)
        simp [Addr.add] at this
        exact ⟨z.toNat, by rw [show ((z.toNat : Nat) : Int) = z from by omega]; simpa [Addr.add] using this, by omega⟩
    obtain ⟨q, hq⟩ := choose_lt each
    have hlen : ((List.range len').map q).length = len' := by simp
    refine ⟨some a, _, (List.range len').map q, by rw [hlen], ⟨by simp, fun hn => ⟨a, rfl, ?_, ?_⟩⟩, ?_⟩
    · rw [hlen] at hn
      have := block_lt (hq 0 hn).1
      rwa [show (a.add 0).block = a.block from by unfold Addr.add; split <;> rfl] at this
    · intro j u hu
      rw [List.map_map, List.getElem?_map] at hu
      obtain ⟨y, hy, rfl⟩ := Option.map_eq_some_iff.1 hu
      obtain ⟨hj, hy⟩ := List.getElem?_eq_some_iff.1 hy
      rw [List.getElem_range] at hy
      subst hy
      simp at hj
      exact (hq j hj).1
    · intro t ht
      obtain ⟨j, hj, rfl⟩ := List.mem_map.1 ht
      exact (hq j (by simpa using hj)).2
end
theorem row_streamWhole {H : Type} {enc : TypeId × Value → H} {r : Reach} {b0 base : Nat} {spare : Nat → Bool} {held : Bool} {d : DataW H} {p : List MemPlace} (n : Int) (v : Value) (W : World)
    (hv : Value.okWide Try.prog W r b0 49 v) (h : DataW.Trod enc Try.prog W base spare held 49 v d p) :
    Calls Try.prog 5 #[.int .i64 n, v] W fun e w' => e = .returned (.bool true) ∧ Below W.heap.size W w' := by
  obtain ⟨ad, cap, L, rfl, hr, hL⟩ := turns_arg hv h
  exact law_streamWhole n _ ad _ cap L W hr (Nat.le_refl _) hL
end Go.Proofs.Ytodlmboagbjcbaa
