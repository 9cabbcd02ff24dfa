/-
  The law JudgeApart, ready for its row: a trace with its names and its views' bounds; the table that a row lays.
  Conditions: those that each theorem names.
-/
import Derived.Test.YtogagkgkmoppmaaGreatDoorMonYZs
import Derived.Test.YtogagkgkmoppmaaGreatDoorRows
import Derived.ProofKit
import Derived.LaidMore
import Derived.OpenShut
import Derived.Stop.Joined
namespace Go.Proofs.YtogagkgkmoppmaaGreatDoor
set_option linter.unusedVariables false
set_option linter.unusedSimpArgs false
open Go.RowKit GM
section
open Go.ChangeShapes Go.WideShapes Go.ChangeAt Go.WideMaps Go.WideElems Go.Deep
def laidB : List (String × DataW Unit) := [("math/bits.deBruijn64tab", Rows.laid_math_bits_deBruijn64tab)]
theorem door_met (os : Os) (args : Array Value) : laidMetH Tryz.prog laidB ((World.doorLaid Tryz.prog 400 os).forCall (fun _ _ => 0) ⟨#[], args, []⟩).memory :=
  laidMetH_of_parts3 (fuel := 8) (laidMet_of_run' 8 (by kernel_rfl) (by kernel_rfl)) (by kernel_rfl) (by kernel_rfl)
theorem gTab : Tryz.prog.globalNamed "math/bits.deBruijn64tab" = some 0 := by kernel_rfl
theorem tTab : (Tryz.prog.globals[0]?).map (·.type) = some 167 := by kernel_rfl
set_option maxRecDepth 100000 in
theorem tab_of_laid {W : World} (h : laidMetH Tryz.prog laidB W) : Tab W := by
  rw [MakeChecks.laidMetH_plain _ _ _ (by kernel_rfl)] at h
  obtain ⟨ps, ⟨g0, t0, cs0, f0, p0, q0, hg0, ht0, hv0, hd0, _, _⟩, _, _⟩ := h
  obtain rfl := Option.some.inj (gTab.symm.trans hg0)
  obtain rfl := Option.some.inj (tTab.symm.trans ht0)
  obtain ⟨xs, m1, rfl, hx1, hlen, hn3, hel⟩ := DataW.trod_array Tryz.underlying167 hd0
  have c1 : Tryz.prog.cellsOf 5 = 1 := by kernel_rfl
  simp only [Prod.mk.injEq] at hx1
  have hD : (DataW.agg (xs.map (·.1)) : DataW Unit) = Rows.laid_math_bits_deBruijn64tab := hx1.1.symm
  have hxs : xs.map (·.1) = Lib.deBruijn64tab.map fun n : Nat => DataW.lit (.int .u8 (n : Int)) := by
    have e : (Rows.laid_math_bits_deBruijn64tab : DataW Unit) = .agg (Lib.deBruijn64tab.map fun n : Nat => DataW.lit (.int .u8 (n : Int))) := by kernel_rfl
    rw [e] at hD
    injection hD
  have hl : Lib.deBruijn64tab.length = 64 := by kernel_rfl
  intro j hj
  rw [hl] at hj
  have h0 := hel j hj
  rw [c1, Nat.mul_one] at h0
  have hj2 : j < xs.length := by omega
  rw [List.getElem?_eq_getElem hj2] at h0
  obtain ⟨k, e1, e2, _⟩ := DataW.trod_int Tryz.underlying5 h0
  have e3 : (xs.map (·.1))[j]? = some (.lit (.int .u8 k)) := by rw [List.getElem?_map, List.getElem?_eq_getElem hj2, e2]; rfl
  rw [hxs, List.getElem?_map, List.getElem?_eq_getElem (by omega)] at e3
  have e4 : ((Lib.deBruijn64tab[j]'(by omega) : Nat) : Int) = k := by simpa using e3
  have e5 : Lib.deBruijn64tab.getD j 0 = Lib.deBruijn64tab[j]'(by omega) := by simp [hl, hj]
  rw [e5, e4]
  have hc := World.var?_cell hg0 hv0 j
  refine hc.trans ?_
  have e6 : cs0.toList[j]? = some (.int .u8 k) := by
    have : ((cs0.toList.drop j).take 1)[0]? = some (.int .u8 k) := by rw [e1]; rfl
    rw [List.getElem?_take_of_lt (by omega), List.getElem?_drop] at this
    simpa using this
  simpa using e6
variable {H : Type} {enc : TypeId × Value → H} {w : World} {base : Nat} {spare : Nat → Bool} {held : Bool}
theorem names_sz {fuel : Nat} {ad : Option Addr} {n cap : Nat} {x : DataW H × List MemPlace} (h : DataW.trod enc Tryz.prog w base spare held fuel 34 [.slice ad n cap] = some x) (hz : WSz Tryz.prog 34 x.1) : n ≤ 140737488351232 / 8 := by
  rcases open_slice Tryz.underlying34 h with ⟨h0, _⟩ | ⟨a, len, cap, m, n, D, Pl, h0, hb, hl, hm, hmm, hxx, hx⟩
  · simp at h0
    omega
  · simp at h0
    have hlm : len ≤ m := by rw [hmm]; split <;> omega
    obtain ⟨_, hnl, _⟩ := h0
    rw [hxx] at hz
    have := (sz_elems Tryz.underlying34 hz).1
    rw [bytesN] at this
    simp [reachBytes] at this
    omega
theorem view_mem {fuel : Nat} {v0 v1 v2 : Value} {d : Nat} {x : DataW H × List MemPlace} (h : DataW.trod enc Tryz.prog w base spare held fuel 33 [v0, v1, v2, .int .u64 (d : Int)] = some x) : d < 18446744073709551616 := by
  obtain ⟨xs, k, hk, hxy, _, hxl, hf⟩ := DataW.trod_struct Tryz.underlying33 h
  have c1 : Tryz.prog.cellsOf 25 = 1 := by kernel_rfl
  have c2 : Tryz.prog.cellsOf 27 = 2 := by kernel_rfl
  match xs, hxl with
  | [y0, y1, y2], _ =>
    have g2 := hf 2 _ rfl
    simp [c1, c2] at g2
    obtain ⟨d', e3, _, h3⟩ := DataW.trod_int Tryz.underlying25 g2
    simp at e3
    obtain ⟨n3, rfl, hn3⟩ := u64_nat h3
    omega
set_option maxRecDepth 100000 in
theorem ev_ofV {fuel : Nat} {cs : List Value} {x : DataW H × List MemPlace} (hl : cs.length = 19) (h : DataW.trod enc Tryz.prog w base spare held fuel 36 cs = some x) (hz : WSz Tryz.prog 36 x.1) : ∃ (y : Ev) (L : List NameK), cs = (evA y).toList ∧ EvOk w y ∧ (L.length = y.nl ∧ Reads w w.heap.size 2 y.na y.nl (namesV L)) ∧ (y.vm < 18446744073709551616 ∧ y.nl ≤ 140737488351232 / 8) := by
  obtain ⟨y, L, rfl, hk, h1, h2⟩ := ev_ofN hl h hz
  obtain ⟨xs, k, hk2, hxy, _, hxl, hf⟩ := DataW.trod_struct Tryz.underlying36 h
  rw [hxy] at hz
  have hU := Tryz.underlying36
  obtain ⟨y0, y1, y2, y3, y4, y5, y6, y7, y8, rfl⟩ : ∃ y0 y1 y2 y3 y4 y5 y6 y7 y8, xs = [y0, y1, y2, y3, y4, y5, y6, y7, y8] := by
    match xs, hxl with
    | [y0, y1, y2, y3, y4, y5, y6, y7, y8], _ => exact ⟨y0, y1, y2, y3, y4, y5, y6, y7, y8, rfl⟩
  have ci : Tryz.prog.cellsOf 3 = 1 := by kernel_rfl
  have cc : Tryz.prog.cellsOf 27 = 2 := by kernel_rfl
  have cm : Tryz.prog.cellsOf 31 = 6 := by kernel_rfl
  have c8 : Tryz.prog.cellsOf 25 = 1 := by kernel_rfl
  have cv : Tryz.prog.cellsOf 33 = 4 := by kernel_rfl
  have cn : Tryz.prog.cellsOf 34 = 1 := by kernel_rfl
  have g6 := hf 6 _ rfl
  have g6 : DataW.trod enc Tryz.prog w base spare held k 33 [.int .u64 (y.vn : Int), .int .u64 (y.vce : Int), .int .i64 y.vcr, .int .u64 (y.vm : Int)] = some y6 := g6
  have g7 := hf 7 _ rfl
  have g7 : DataW.trod enc Tryz.prog w base spare held k 34 [.slice y.na y.nl y.nc] = some y7 := g7
  exact ⟨y, L, rfl, hk, ⟨h1, h2⟩, view_mem g6, names_sz g7 (sz_field hU hz 7 rfl rfl)⟩
set_option maxRecDepth 100000 in
theorem evs_argV {r : Go.Reach} {b0 : Nat} {v : Value} {d : DataW H} {pl : List MemPlace} (hv : Value.okWide Tryz.prog w r b0 22 v) (h : DataW.Trod enc Tryz.prog w base spare held 22 v d pl) (hz : WSz Tryz.prog 22 d) :
    ∃ (ad : Option Addr) (l : List Ev) (cap : Nat) (nm : Nat → List NameK), v = .slice ad l.length cap ∧ EvsAt w ad l ∧ NmAt w l nm ∧ l.length ≤ cap ∧ VwOk l := by
  obtain ⟨fuel, hf⟩ := h
  obtain ⟨a', len', cap', rfl⟩ := okWide_slice Tryz.underlying22 hv
  have hcs : (Value.slice a' len' cap').cells.toList = [Value.slice a' len' cap'] := by simp [Value.cells]
  have h19 : Tryz.prog.cellsOf 36 = 19 := by kernel_rfl
  rcases open_slice Tryz.underlying22 hf with ⟨h0, _⟩ | ⟨a, len, cap, m, n, D, Pl, h0, hb, hl, hm, hmm, hxx, hx⟩
  · rw [hcs] at h0
    simp at h0
    obtain ⟨_, rfl, _⟩ := h0
    exact ⟨_, [], _, fun _ => [], rfl, ⟨by simp, fun i h => absurd h (by simp)⟩, fun i h => absurd h (by simp), by simp, fun x hx => (by cases hx)⟩
  · rw [hcs] at h0
    simp at h0
    obtain ⟨rfl, rfl, rfl⟩ := h0
    have hlm : len' ≤ m := by rw [hmm]; split <;> omega
    have hd : d = _ := congrArg Prod.fst hxx
    rw [hd] at hz
    have hsz := sz_elems Tryz.underlying22 hz
    have hlen4 : len' ≤ 140737488351232 := by
      have := hsz.1
      rw [bytesE] at this
      simp [reachBytes] at this
      omega
    have each : ∀ i, i < len' → ∃ y : Ev × List NameK, (∀ j u, (evA y.1).toList[j]? = some u → w.cell? ((a.add (i * 19)).add j) = some u) ∧ EvOk w y.1 ∧ (y.2.length = y.1.nl ∧ Reads w w.heap.size 2 y.1.na y.1.nl (namesV y.2)) ∧ (y.1.vm < 18446744073709551616 ∧ y.1.nl ≤ 140737488351232 / 8) := by
      intro i hi
      obtain ⟨cs', h1, h2⟩ := hx i (by omega)
      rw [h19] at h1
      obtain ⟨_, hlen, hcell⟩ := World.cells?_some h1
      obtain ⟨y, L, e, hq⟩ := ev_ofV hlen h2 (hsz.2 _ (List.mem_map.2 ⟨i, List.mem_range.2 hi, rfl⟩))
      refine ⟨(y, L), fun j u hu => ?_, hq⟩
      have hu : (evA y).toList[j]? = some u := hu
      rw [← e] at hu
      have hj : j < 19 := by have := (List.getElem?_eq_some_iff.1 hu).1; omega
      exact (hcell j hj).trans hu
    obtain ⟨q, hq⟩ := choose_lt each
    have hl2 : ((List.range len').map fun i => (q i).1).length ≤ 140737488351232 := by simpa using hlen4
    clear hlen4
    refine ⟨some a, (List.range len').map fun i => (q i).1, cap', fun i => (q i).2, by simp, ⟨hl2, fun i hi => ?_⟩, fun i hi => ?_, by simpa using hl, fun x hx => ?_⟩
    rotate_left
    · have hi' : i < len' := by simpa using hi
      rw [List.getElem_map, List.getElem_range]
      exact (hq i hi').2.2.1
    · obtain ⟨i, hi, rfl⟩ := List.mem_map.1 hx
      exact (hq i (List.mem_range.1 hi)).2.2.2
    clear hl2 hz hsz
    have hi' : i < len' := by simpa using hi
    obtain ⟨b, off, spot⟩ := a
    have hz := (hq 0 (by omega)).1 0 _ rfl
    have hspot : spot = none := by simpa [Addr.add] using World.cell?_spot hz
    subst hspot
    rw [List.getElem_map, List.getElem_range]
    refine ⟨b, off, rfl, ?_, ?_, (hq i hi').2.1⟩
    · have := blk_lt hz; rw [add_at, add_at] at this; exact this
    · intro j u hu
      have := (hq i hi').1 j u hu
      rw [add_at, add_at] at this
      exact this
set_option maxRecDepth 100000 in
theorem judgeApart_row (v0 : Value) (W : World) {r : Go.Reach} {b0 : Nat} {d : DataW H} {p : List MemPlace}
    (hv : Value.okWide Tryz.prog W r b0 22 v0) (h0 : DataW.Trod enc Tryz.prog W base spare held 22 v0 d p)
    (hz : ∀ n ∈ d.weights Tryz.prog 22, n ≤ reachBytes) (hL : laidMetH Tryz.prog laidB W) :
    Calls Tryz.prog 3 #[v0] W fun e w' => e = .returned (.bool true) ∧ Below W.heap.size W w' := by
  obtain ⟨ad, l, cap, nm, rfl, hp, hn, hc, hk⟩ := evs_argV hv h0 hz
  exact law_judgeApart W ad cap l nm hp hn hc hk (tab_of_laid hL)
end
end Go.Proofs.YtogagkgkmoppmaaGreatDoor
