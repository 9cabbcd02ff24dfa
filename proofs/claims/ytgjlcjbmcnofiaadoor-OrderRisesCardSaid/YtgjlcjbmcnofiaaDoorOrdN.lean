/-
  OrderTrims, ready for its row; what a row's listed table gives.
  Conditions: the table of math/bits, as the row lists it.
-/
import Derived.Test.YtgjlcjbmcnofiaaDoorOrdM
import Derived.Test.YtgjlcjbmcnofiaaDoorRows
import Derived.ProofKit
import Derived.LaidMore
import Derived.OpenShut
import Derived.Stop.Joined
namespace Go.Proofs.YtgjlcjbmcnofiaaDoor
open Go.ChangeShapes Go.WideShapes Go.ChangeAt Go.WideMaps Go.WideElems Go.RowKit
set_option linter.unusedVariables false
set_option linter.unusedSimpArgs false
def laidB : List (String × DataW Unit) := [("math/bits.deBruijn64tab", Rows.laid_math_bits_deBruijn64tab)]
theorem gTab : Tryd.prog.globalNamed "math/bits.deBruijn64tab" = some 0 := by kernel_rfl
theorem tTab : (Tryd.prog.globals[0]?).map (·.type) = some 162 := by kernel_rfl
theorem door_met (os : Os) (args : Array Value) : laidMetH Tryd.prog laidB ((World.doorLaid Tryd.prog 400 os).forCall (fun _ _ => 0) ⟨#[], args, []⟩).memory :=
  laidMetH_of_parts3 (fuel := 8) (laidMet_of_run' 8 (by kernel_rfl) (by kernel_rfl)) (by kernel_rfl) (by kernel_rfl)
set_option maxRecDepth 100000 in
theorem tab_of_laid {W : World} (h : laidMetH Tryd.prog laidB W) : Tab W := by
  rw [MakeChecks.laidMetH_plain _ _ _ (by kernel_rfl)] at h
  obtain ⟨ps, ⟨g0, t0, cs0, f0, p0, q0, hg0, ht0, hv0, hd0, _, _⟩, _, _⟩ := h
  obtain rfl := Option.some.inj (gTab.symm.trans hg0)
  obtain rfl := Option.some.inj (tTab.symm.trans ht0)
  obtain ⟨xs, m1, rfl, hx1, hlen, hn3, hel⟩ := DataW.trod_array Tryd.underlying162 hd0
  have c1 : Tryd.prog.cellsOf 5 = 1 := by kernel_rfl
  simp only [Prod.mk.injEq] at hx1
  have hD : (DataW.agg (xs.map (·.1)) : DataW Unit) = Rows.laid_math_bits_deBruijn64tab := hx1.1.symm
  have hxs : xs.map (·.1) = Lib.deBruijn64tab.map fun n : Nat => DataW.lit (.int .u8 (n : Int)) := by
    have e : (Rows.laid_math_bits_deBruijn64tab : DataW Unit) = .agg (Lib.deBruijn64tab.map fun n : Nat => DataW.lit (.int .u8 (n : Int))) := by kernel_rfl
    rw [e] at hD
    injection hD
  have hl : Lib.deBruijn64tab.length = 64 := by kernel_rfl
  intro j hj
  rw [hl] at hj
  have h0 := hel j hj
  rw [c1, Nat.mul_one] at h0
  have hj2 : j < xs.length := by omega
  rw [List.getElem?_eq_getElem hj2] at h0
  obtain ⟨k, e1, e2, _⟩ := DataW.trod_int Tryd.underlying5 h0
  have e3 : (xs.map (·.1))[j]? = some (.lit (.int .u8 k)) := by rw [List.getElem?_map, List.getElem?_eq_getElem hj2, e2]; rfl
  rw [hxs, List.getElem?_map, List.getElem?_eq_getElem (by omega)] at e3
  have e4 : ((Lib.deBruijn64tab[j]'(by omega) : Nat) : Int) = k := by simpa using e3
  have e5 : Lib.deBruijn64tab.getD j 0 = Lib.deBruijn64tab[j]'(by omega) := by simp [hl, hj]
  rw [e5, e4]
  have hc := World.var?_cell hg0 hv0 j
  refine hc.trans ?_
  have e6 : cs0.toList[j]? = some (.int .u8 k) := by
    have : ((cs0.toList.drop j).take 1)[0]? = some (.int .u8 k) := by rw [e1]; rfl
    rw [List.getElem?_take_of_lt (by omega), List.getElem?_drop] at this
    simpa using this
  simpa using e6
section
variable {H : Type} {enc : TypeId × Value → H} {base : Nat} {spare : Nat → Bool} {held : Bool}
set_option maxRecDepth 100000 in
theorem orderTrims_row (a0 : Int) (v1 : Value) (W : World) {r : Reach} {b0 : Nat} {d : DataW H} {p : List MemPlace} (h0 : 0 ≤ a0 ∧ a0 ≤ 18446744073709551615)
    (hv : Value.okWide Tryd.prog W r b0 44 v1) (h1 : DataW.Trod enc Tryd.prog W base spare held 44 v1 d p) (hL : laidMetH Tryd.prog laidB W) :
    Calls Tryd.prog 5 #[.int .u64 a0, v1] W fun e w' => e = .returned (.bool true) ∧ Below W.heap.size W w' := by
  obtain ⟨n, rfl⟩ := Int.eq_ofNat_of_zero_le h0.1
  obtain ⟨l, hl⟩ := acts_arg hv h1
  exact law_orderTrims n v1 l W (by omega) (tab_of_laid hL) hl
end
end Go.Proofs.YtgjlcjbmcnofiaaDoor
