/-
  An iterator's events, appended to a row.
  Conditions: those that each theorem names.
-/
import Derived.Test.YtogagkgkmoppmaaGreatDoorZdBZs
import Derived.Test.YtogagkgkmoppmaaGreatDoorBaseZs
import Derived.Test.YtogagkgkmoppmaaGreatDoorJuZBZs
import Derived.RangeFuncNested
import Derived.RangeFuncBox
import Derived.Maps.AppendAt
import Derived.Test.YtogagkgkmoppmaaGreatDoorApS
import Derived.Shelf.SlSortCmp.InsertionK
import Derived.Shelf.SlSortCmp.NoneTotal
import Derived.Lib.TrailingZeros
import Derived.Laws.BitsAllLaws
import Derived.Laws.Bits64b
import Derived.Test.YtogagkgkmoppmaaGreatDoorJuKZs
import Derived.Shelf.Spec.TrailingZeros
import Derived.Test.YtogagkgkmoppmaaGreatDoorJuHZs
namespace Go.Proofs.YtogagkgkmoppmaaGreatDoor
set_option linter.unusedVariables false
set_option linter.unusedSimpArgs false
open Go.RowKit GM Go.Shelf
attribute [local go_sem] Oper.semAt_some
theorem wpListIn_buildSlice_rowK {F : Fence} {n : Nat} {P : Program} {ops : Array Oper} {rest : List Oper} {o : Oper} {a : Act} {w : World} {Q : Exit → Act → World → Prop} (hgd : o.guard = none) (t : TypeId) (x : Operand) (ho : o.op = .buildSlice t 1 #[(0, x)])
    (e : TypeId) (i : TypeInfo) (z : Value) (ht : P.underlying t = some (.slice e)) (hi : P.info? e = some i) (hz : i.zero = some z) (cs : Array Value) (hx : a.eval x = .agg cs) (hsize : i.size = cs.size)
    (h0 : 0 < cs.size) (hc : cs.size ≤ 16777216)
    (h : wpListIn F n P ops Q rest (a.put o.dst (.slice (some ⟨w.heap.size, 0, none⟩) 1 1)) (w.alloc (.cells cs e))) : wpListIn F n P ops Q (o :: rest) a w := by
  refine wpListIn_plain hgd fun K hK => ?_
  unfold Oper.wpIn
  refine ⟨by simp [Oper.about, ho], ?_⟩
  rw [Oper.semAt_plain F _ _ (by rw [ho]; intro c hc'; cases hc')]
  unfold execOp
  have hlen : ¬ 1 * cs.size > 2 ^ 24 := by omega
  have hne : ¬ 1 * cs.size = 0 := by omega
  have hf := fill_one cs ((Array.range (1 * cs.size)).map (z.cells[· % z.cells.size]!)) (by simp)
  have hne2 : cs ≠ #[] := by intro e; rw [e] at h0; simp at h0
  rw [Nat.one_mul] at hf
  have hr : (Instr.buildSlice t 1 #[(0, .agg cs)]).run P w = .ok (.slice (some ⟨w.heap.size, 0, none⟩) 1 1) (w.alloc (.cells cs e)) := by
    simp [Instr.buildSlice, run_underlying ht, sizeOf, typeInfo, zeroValue, hi, hz, hsize, newRow]
    rw [if_neg (by omega), if_neg hne2, hf]
    simp
  have hp : (#[(0, x)] : Array (Nat × Operand)).map (fun p => (p.1, a.eval p.2)) = #[(0, .agg cs)] := by simp [hx]
  simp only [ho]
  rw [hp]
  simp only [Sem.run_bind, hr, Result.andThen_ok, Sem.run_pure]
  exact hK _ _ h
/-- the events behind some numbers, as a row -/
def rowsK (L : List (Int × Ev)) (ks : List Int) : List Value := rowsE (ks.map (evOf L))
theorem rowsK_snoc (L : List (Int × Ev)) (ks : List Int) (k : Int) : rowsK L (ks ++ [k]) = rowsK L ks ++ (evA (evOf L k)).toList := by
  unfold rowsK rowsE
  rw [List.map_append, List.flatMap_append]
  simp
theorem evA_ones (x : Ev) : ∀ u ∈ (evA x).toList, u.oneCell' = true := by
  intro u hu
  have : (evA x).all (·.oneCell') = true := by simp [evA, Value.oneCell']
  rw [Array.all_eq_true'] at this
  exact this u (by simpa using hu)
def AppEnd (w : World) (L : List (Int × Ev)) (e : Ending) (w' : World) : Prop := ∃ v ks, (e = .returned v ∧ ks.Perm (L.map (·.1)) ∧ w'.ownsRow w.heap.size 36 19 v ks.length (rowsK L ks)) ∧ Below w.heap.size w w'
set_option maxRecDepth 100000 in
set_option maxHeartbeats 8000000 in
theorem appendSeq_any (Bm mb : Nat) (L : List (Int × Ev)) (hL5 : L.length ≤ 500) (w : World) (hl : Bm < w.heap.size) (hm : w.cell? ⟨Bm, 0, none⟩ = some (.map (some mb))) (hg : GMap uV w mb (vals evV L)) :
    Calls Tryz.prog 87 #[.slice none 0 0, .func (.func 82) #[] #[.pointer (some ⟨Bm, 0, none⟩)]] w (AppEnd w L) := by
  obtain ⟨i0, hi, hz0, hz1, hz2⟩ := info_parts infoE27
  refine (callsIn_wide (n := 4)).1 ?_
  refine callsIn_of_wp_marks Tryz.func87 rfl trivial ?_ rfl
  simp only [Tryz.ntmps87, List.size_toArray, List.length_cons, List.length_nil, Nat.reduceAdd, Nat.reduceSub, Array.replicate_succ, Array.replicate_zero, List.push_toArray, List.append_toArray, List.nil_append, List.cons_append]
  gi_wp2
  obtain ⟨W0, hW0⟩ : ∃ W0, W0 = w.alloc (.cells #[.slice none 0 0] 22) := ⟨_, rfl⟩
  have hb0 : Below w.heap.size w W0 := by rw [hW0]; exact ba (br w) _
  have hbox : Boxed W0 w.heap.size 22 (.slice none 0 0) := by rw [hW0]; exact Boxed.new w _ _
  have hs0 : W0.heap.size = w.heap.size + 1 := by rw [hW0]; simp
  rw [← hW0]
  refine wpIn_rangeFunc_ownH (α := Int) rfl (by omega) (gf := 82) (lb := #[.pointer (some ⟨Bm, 0, none⟩)]) rfl trivial (enters_of Tryz.func82 (by kernel_rfl) rfl)
    (values1_stops Bm mb L W0 (Nat.lt_of_lt_of_le hl hb0.size) ((hb0.cell (p := ⟨Bm, 0, none⟩) hl).trans hm) (hg.below hb0 hg.lt) (4 - 1) (by omega)) walksK_t (fun W l o o' _ h1 h2 h3 => KeepsWalks.putObj o' h1 h3) (br W0) (fun x => rfl)
    (fun ks W => (∃ v, Boxed W w.heap.size 22 v ∧ W.ownsRow w.heap.size 36 19 v ks.length (rowsK L ks) ∧ True) ∧ Below w.heap.size w W) (fun _ _ _ => False)
    (OwnFrom.and (Own.from (holdsRow_own w.heap.size w.heap.size 22 36 19 (fun ks : List Int => ks.length) (fun ks => rowsK L ks) (fun _ _ => True)) _) (ownFrom_below (Nat.le_refl _) hb0.size)) (fun _ _ _ _ _ hs _ _ => hs) ⟨⟨_, hbox, ⟨rfl, .inl ⟨rfl, rfl⟩⟩, trivial⟩, hb0⟩
    (fun k a' W => ∃ Bx, w.heap.size < Bx ∧ W.heap[Bx]? = some (.cells (evA (evOf L k)) 36 (0, 0)) ∧ a' = { tmps := #[.slice none 0 0, .func (.func 82) #[] #[.pointer (some ⟨Bm, 0, none⟩)], .pointer (some ⟨w.heap.size, 0, none⟩), undef, .slice none 0 0, .pointer (some ⟨Bx, 0, none⟩), .func (.func 82) #[] #[.pointer (some ⟨Bm, 0, none⟩)], evV (evOf L k), undef, undef, undef, undef, undef], defers := [] })
    ?ax ?assign ?body ?done ?stop
  case ax =>
    rintro k a' s X Y row ⟨Bx, h1, h2, h3⟩ hgr hrow
    refine ⟨Bx, h1, (hgr.block Bx (Array.getElem?_eq_some_iff.1 h2).1 (fun e => ?_)).trans h2, h3⟩
    obtain ⟨_, o, ho, hc⟩ := hrow Bx e.symm
    rw [h2] at ho
    cases ho
    cases hc
  case assign =>
    rintro l pre k W K ⟨⟨v, hv, hrow, _⟩, hB⟩ hK
    obtain ⟨cx, hcx⟩ : ∃ cx, cx = evA (evOf L k) := ⟨_, rfl⟩
    have y1 : cx.size = 19 := by rw [hcx]; rfl
    have p1 : cx.all (·.oneCell') = true := by rw [hcx]; simp [evA, Value.oneCell']
    have hz := heap_alloc_new W (.cells zEv 36)
    have hbz := ba (br W) (.cells zEv 36)
    obtain ⟨w2, hw2⟩ : ∃ w2, w2 = (W.alloc (.cells zEv 36)).setRow W.heap.size cx := ⟨_, rfl⟩
    have hb2 : Below W.heap.size W w2 := by rw [hw2]; exact (kept_setRow' (W.alloc (.cells zEv 36)) W.heap.size cx).out hbz hbz.size (fun k hk' e => by omega)
    have hx2 : w2.heap[W.heap.size]? = some (.cells cx 36 (0, 0)) := by rw [hw2]; exact setRow_heap _ _ _ _ _ _ hz
    have hgr2 : W.grownBy w2 none := ⟨hb2.os, hb2.tape, hb2.output, hb2.size, fun k hk _ => hb2.block k hk⟩
    have hlt := hv.lt
    have HK := Lib.hid (fun a' h => hK a' w2 ((KeepsOthers.of_grownBy hgr2 (fun j o e => by cases e)).from _) ⟨hb2.size, fun b o hb ho => (hb2.block b (Array.getElem?_eq_some_iff.1 hb).1).trans hb⟩ ⟨⟨v, hv.kept hgr2 (by simp), hrow.kept hgr2 (by rcases hh : v.ownBlock with _ | b; exact .inl rfl; exact .inr (by simp)), trivial⟩, bt hB hb2⟩ h)
    have HQ := Lib.hid (And.intro y1 (And.intro p1 hz))
    have HX := Lib.hid (show ∃ Bx, w.heap.size < Bx ∧ w2.heap[Bx]? = some (.cells (evA (evOf L k)) 36 (0, 0)) ∧ Bx = W.heap.size from ⟨_, hlt, by rw [← hcx]; exact hx2, rfl⟩)
    unfold evV
    rw [← hcx]
    have HCX := Lib.hid hcx
    clear hK hv hrow hB y1 p1 hz hbz hb2 hx2 hgr2 hlt hcx
    subst hw2
    unfold zEv at HQ HX HK
    gi_wp2_with (first
      | (refine wpListIn_store_rowK rfl 36 (.tmp 5) (.tmp 7) rfl W.heap.size cx rfl rfl 36 _ HQ.out.2.2 (by rw [HQ.out.1]; kernel_rfl) (by rw [HQ.out.1]; rfl) HQ.out.2.1 ?_)
      | gi_in)
    obtain ⟨Bx, h1, h2, h3⟩ := HX.out
    rw [h3] at h1 h2
    refine HK.out _ ⟨W.heap.size, h1, h2, ?_⟩
    rw [HCX.out]
    rfl
  case body =>
    rintro l pre k a' W hl hr ⟨⟨v, hv, hrow, _⟩, hB⟩ ⟨Bx, hBx, hx, rfl⟩ hlt
    obtain ⟨cx, hcx⟩ : ∃ cx, cx = evA (evOf L k) := ⟨_, rfl⟩
    have y1 : cx.size = 19 := by rw [hcx]; rfl
    have p1 : ∀ u ∈ cx.toList, u.oneCell' = true := by rw [hcx]; exact evA_ones _
    rw [← hcx] at hx
    have hxr : W.rangeAt Bx 0 cx.toList := range_of hx _ (fun j u hu => by simpa using hu)
    have hfr : W.ownsRow w.heap.size 36 19 v (pre.length) (rowsK L pre) := hrow
    have hte : (22 : TypeId) ≠ 36 := by decide
    have hWs : w.heap.size ≤ W.heap.size := hB.size
    obtain ⟨wt, hwt⟩ : ∃ wt, wt = W.alloc (.cells cx 36) := ⟨_, rfl⟩
    have hnew : wt.heap[W.heap.size]? = some (.cells cx 36 (0, 0)) := by rw [hwt]; exact heap_alloc_new W _
    have hrow2 : wt.ownsRow w.heap.size 36 19 v pre.length (rowsK L pre) := by rw [hwt]; exact hrow.alloc _
    have hct : ∀ j u, cx.toList[j]? = some u → wt.cell? ((⟨W.heap.size, 0, none⟩ : Addr).add j) = some u := by
      intro j u hj
      have hj' : cx[j]? = some u := by simpa using hj
      rcases j with _ | j <;> simp [Addr.add, World.cell?, hnew, hj']
    have hts : w.heap.size ≤ wt.heap.size := by rw [hwt]; simp; omega
    have cV := hv.cell
    have hN : pre.length < 500 := by omega
    have HV := Lib.hid hv
    have HR := Lib.hid hrow
    have HA := Lib.hid (show ∀ v' w1, w1.ownsRow w.heap.size 36 19 v' (pre.length + 1) (rowsK L pre ++ cx.toList) → wt.grownBy w1 v.ownBlock → Boxed w1 w.heap.size 22 v ∧ Boxed (w1.setCell ⟨w.heap.size, 0, none⟩ v') w.heap.size 22 v' ∧ (w1.setCell ⟨w.heap.size, 0, none⟩ v').ownsRow w.heap.size 36 19 v' (pre.length + 1) (rowsK L pre ++ cx.toList) ∧ KeepsOthers W (w1.setCell ⟨w.heap.size, 0, none⟩ v') ∧ Below w.heap.size W (w1.setCell ⟨w.heap.size, 0, none⟩ v') from by
      intro v' w1 h1 h2
      rw [hwt] at h2
      exact Boxed.appended hv hte hrow hWs (Nat.le_refl _) h1 h2)
    have HQ := Lib.hid (And.intro y1 (And.intro p1 (And.intro hxr (And.intro hrow2 (And.intro hct (And.intro hts (And.intro hN (And.intro hB hcx))))))))
    clear hv hrow hfr hB y1 p1 hxr hrow2 hct hts hnew hx hr hcx hlt hN
    unfold evV
    gi_wp2_with (first
      | (with_reducible refine wpListIn_load_midK rfl 36 (.tmp 5) rfl Bx 0 rfl cx.toList _ HQ.out.2.2.1 Tryz.underlying36 rfl (by rw [Array.length_toList, HQ.out.1]; kernel_rfl) ?_)
      | (refine wpListIn_buildSlice_rowK rfl 22 (.tmp 9) rfl 36 i0 _ Tryz.underlying22 hi hz0 cx rfl (by rw [hz1, HQ.out.1]) (by rw [HQ.out.1]; omega) (by rw [HQ.out.1]; omega) ?_)
      | (rw [← hwt]; refine wpListIn_append_own wt rfl (.tmp 8) (.tmp 10) 22 rfl w.heap.size 36 i0 _ 19 200 Tryz.underlying22 hi hz0 hz1 hz2 rfl (by omega) v pre.length (rowsK L pre) rfl HQ.out.2.2.2.1 ⟨W.heap.size, 0, none⟩ 1 1 cx.toList rfl (by rw [Array.length_toList, HQ.out.1]) HQ.out.2.2.2.2.1 HQ.out.2.1 (by have := HQ.out.2.2.2.2.2.2.1; simp only [maxLen]; omega) (by have := HQ.out.2.2.2.2.2.2.1; omega) HQ.out.2.2.2.2.2.1 ?_
         intro v' w1 hown' hgrow hnil
         obtain ⟨gg, ca, rfl⟩ := ownsRow_succ hown'
         have hA := HA.out _ w1 hown' hgrow
         have cB := hA.1.cell
         have fB := hA.1.frozen
         have HA' := Lib.hid hA
         clear hown' hgrow hnil hA)
      | gi_in)
    refine ⟨HA'.out.2.2.2.1.from _, HA'.out.2.2.2.1.walks, ⟨_, HA'.out.2.1, ?_, trivial⟩, HQ.out.2.2.2.2.2.2.2.1.trans HA'.out.2.2.2.2⟩
    rw [rowsK_snoc, ← HQ.out.2.2.2.2.2.2.2.2, List.length_append]
    exact HA'.out.2.2.1
  case done =>
    rintro D ks W hD hS ⟨⟨v, hv, hrow, _⟩, hB⟩ hK
    have hvc := hv.cell
    have HE := Lib.hid (And.intro hS (And.intro hrow hB))
    clear hrow
    gi_wp2
    refine ⟨by simp, .inl ⟨_, _, rfl, run_takeDeferred hK, ?_⟩⟩
    refine ⟨_, results_tmp rfl _ _ _, v, ks, ⟨rfl, HE.out.1, ?_⟩, HE.out.2.2.trans (belowK_b (w := w) (Nat.le_refl _) W D _ _ (Nat.le_trans hb0.size hD) hK rfl rfl)⟩
    exact ownsRow_putObj HE.out.2.1 _ hK rfl
  case stop =>
    rintro D c pre W _ _ h _
    exact h.elim
end Go.Proofs.YtogagkgkmoppmaaGreatDoor
namespace Go.Proofs.YtogagkgkmoppmaaGreatDoor
set_option linter.unusedVariables false
set_option linter.unusedSimpArgs false
open Go.RowKit GM Go.Shelf
/-- the event behind a number, its view's number that one -/
def evK (L : List (Int × Ev)) (k : Nat) : Ev := { evOf L (k : Int) with vn := k }
def encK (L : List (Int × Ev)) (k : Nat) : List Value := (evA (evK L k)).toList
theorem encK_len (L : List (Int × Ev)) (k : Nat) : (encK L k).length = 19 := rfl
/-- numbers, compared -/
def cmpN (x y : Nat) : Int := cmpZ (x : Int) (y : Int)
/-- keys, by their numbers -/
def sortZ (ks : List Nat) : List Nat := ks.mergeSort fun x y => !(Go.Proofs.ltOf cmpN) y x
theorem ltZ (x y : Nat) : Go.Proofs.ltOf cmpN x y = decide (x < y) := by
  unfold Go.Proofs.ltOf cmpN cmpZ
  by_cases h1 : x < y
  · simp [h1]
  · by_cases h2 : y < x <;> simp [h1, h2]
theorem swoZ : Sort.SWO (Go.Proofs.ltOf cmpN) where
  irrefl x := by rw [ltZ]; simp
  trans x y z h1 h2 := by rw [ltZ] at *; simp at *; omega
  ntrans x y z h1 h2 := by rw [ltZ] at *; simp at *; omega
theorem sortZ_perm (ks : List Nat) : (sortZ ks).Perm ks := List.mergeSort_perm _ _
theorem sortZ_sorted (ks : List Nat) : (sortZ ks).Pairwise (· ≤ ·) := by
  have h := List.pairwise_mergeSort (le := fun x y : Nat => !(Go.Proofs.ltOf cmpN) y x) (fun a b c h1 h2 => by simp only [ltZ] at *; simp at *; omega) (fun a b => by simp only [ltZ]; simp; omega) ks
  exact h.imp fun {a b} h => by simp only [ltZ] at h; simpa using h
theorem sortZ_uniq {a b : List Nat} (h : a.Perm b) : sortZ a = sortZ b :=
  List.Perm.eq_of_pairwise (le := (· ≤ ·)) (fun x y _ _ h1 h2 => by omega) (sortZ_sorted a) (sortZ_sorted b) ((sortZ_perm a).trans (h.trans (sortZ_perm b).symm))
theorem flat_rows (L : List (Int × Ev)) (ks : List Nat) : (Sort.flatK (encK L) 19 ks.toArray).toList = rowsE (ks.map (evK L)) := by
  have hr : (rowsE (ks.map (evK L))).length = ks.length * 19 := by
    induction ks with
    | nil => rfl
    | cons a t ih =>
      have : (rowsE ((a :: t).map (evK L))).length = 19 + (rowsE (t.map (evK L))).length := by
        unfold rowsE
        simp only [List.map_cons, List.flatMap_cons, List.length_append]
        rfl
      rw [this, ih, List.length_cons]
      omega
  refine List.ext_getElem? fun t => ?_
  by_cases h : t < ks.length * 19
  · have hi : t / 19 < ks.length := Nat.div_lt_of_lt_mul (by omega)
    have hj : t % 19 < 19 := Nat.mod_lt _ (by omega)
    have hm : t / 19 * 19 + t % 19 = t := by omega
    have h2 := rowsE_at (ks.map (evK L)) (t / 19) (by simpa using hi) (t % 19) ((encK L ks[t / 19])[t % 19]'(by rw [encK_len]; exact hj)) (by
      rw [List.getElem_map]
      exact List.getElem?_eq_getElem _)
    rw [hm] at h2
    rw [h2, Array.getElem?_toList]
    have hs : t < (Sort.flatK (encK L) 19 ks.toArray).size := by rw [Sort.size_flatK]; simpa using h
    have hg := Sort.get_flatK (encK L) 19 ks.toArray t (by simpa using h)
    rw [getElem!_pos _ t hs] at hg
    rw [Array.getElem?_eq_getElem hs, hg]
    have e1 : ks.toArray[t / 19]! = ks[t / 19] := by rw [getElem!_pos _ _ (by simpa using hi)]; simp
    rw [e1, getElem!_pos _ _ (by rw [encK_len]; exact hj)]
  · rw [List.getElem?_eq_none (by rw [Array.length_toList, Sort.size_flatK]; simpa using h), List.getElem?_eq_none (by rw [hr]; omega)]
theorem rowsE_len19 (l : List Ev) : (rowsE l).length = l.length * 19 := by
  induction l with
  | nil => rfl
  | cons a t ih =>
    have : (rowsE (a :: t)).length = 19 + (rowsE t).length := by
      unfold rowsE
      simp only [List.flatMap_cons, List.length_append]
      rfl
    rw [this, ih, List.length_cons]
    omega
theorem ownsRow_sorted (L : List (Int × Ev)) {w : World} {n0 g n cap m : Nat} {ks ks' : List Nat} {os : Array Obj} (h : w.ownsRow n0 36 19 (.slice (some ⟨g, 0, none⟩) n cap) n (rowsE (ks.map (evK L)))) (hl : ks'.length = n) (hn : n0 ≤ w.heap.size) :
    (sortWorldK (encK L) 19 w g 0 m ks'.toArray os).ownsRow n0 36 19 (.slice (some ⟨g, 0, none⟩) n cap) n (rowsE (ks'.map (evK L))) ∧ Below n0 w (sortWorldK (encK L) 19 w g 0 m ks'.toArray os) := by
  rcases h.2 with ⟨hv, _⟩ | ⟨g', cap', cur, hv, hbg, hg, hnc, hcm, hcs, ht⟩
  · cases hv
  injection hv with hv1 hv2 hv3
  injection hv1 with hv1
  injection hv1 with hv1
  subst hv1 hv3
  have hlt := (Array.getElem?_eq_some_iff.1 hg).1
  have hF : (Sort.flatK (encK L) 19 ks'.toArray).size = n * 19 := by rw [Sort.size_flatK]; simp [hl]
  have hle : n * 19 ≤ cap * 19 := Nat.mul_le_mul_right _ hnc
  have hblk : (sortWorldK (encK L) 19 w g 0 m ks'.toArray os).heap[g]? = some (.cells (Sort.putCells id 0 (Sort.flatK (encK L) 19 ks'.toArray) cur) 36 (0, 0)) := by
    unfold sortWorldK
    rw [Sort.heap_grow_old _ os (by rw [Sort.putRowK, Sort.size_putRow]; exact hlt)]
    unfold Sort.putRowK Sort.putRow Sort.mapBlock
    simp [Array.getElem?_modify, hg, Sort.onCells]
  refine ⟨⟨?_, .inr ⟨g, cap, _, rfl, hbg, hblk, hnc, hcm, ?_, ?_⟩⟩, ?_⟩
  · rw [rowsE_len19, List.length_map, hl]
  · simp [Sort.putCells, hcs]
  · rw [← flat_rows]
    refine List.ext_getElem? fun t => ?_
    by_cases hlt2 : t < n * 19
    · rw [List.getElem?_take, if_pos hlt2]
      have hc : t < cur.size := by rw [hcs]; omega
      have hf : t < (Sort.flatK (encK L) 19 ks'.toArray).size := by rw [hF]; exact hlt2
      have hg2 := getElem!_pos (Sort.flatK (encK L) 19 ks'.toArray) t hf
      have h9 : t < ks'.length * 19 := by omega
      simp [Sort.putCells, Array.getElem?_mapIdx, Array.getElem?_eq_getElem hc, Array.getElem?_eq_getElem hf, h9, hg2]
    · rw [List.getElem?_eq_none (by rw [List.length_take]; omega), List.getElem?_eq_none (by rw [Array.length_toList, hF]; omega)]
  · unfold sortWorldK
    refine ⟨rfl, rfl, rfl, ?_, fun k hk => ?_⟩
    · rw [Sort.size_grow, Sort.putRowK, Sort.size_putRow]; simp
    · rw [Sort.heap_grow_old _ os (by rw [Sort.putRowK, Sort.size_putRow]; simp; omega)]
      unfold Sort.putRowK Sort.putRow Sort.mapBlock
      have : g ≠ k := by omega
      simp [Array.getElem?_modify, this]
theorem holdsK_row (L : List (Int × Ev)) {w : World} {n0 g n cap : Nat} {ks : List Nat} (h : w.ownsRow n0 36 19 (.slice (some ⟨g, 0, none⟩) n cap) n (rowsE (ks.map (evK L)))) : Sort.HoldsK (encK L) 19 w g 0 ks.toArray := by
  intro j hj
  have hc := h.cells (g := g) rfl j (Sort.flatK (encK L) 19 ks.toArray)[j]! (by rw [← flat_rows, Array.getElem?_toList, getElem!_pos _ j hj]; exact Array.getElem?_eq_getElem hj)
  rcases h.2 with ⟨hv, _⟩ | ⟨g', cap', cur, hv, hbg, hg, hnc, hcm, hcs, ht⟩
  · cases hv
  injection hv with hv1 hv2 hv3
  injection hv1 with hv1
  injection hv1 with hv1
  subst hv1
  refine ⟨?_, ?_⟩
  · rcases j with _ | j
    · simpa [Addr.add] using hc
    · simpa [Addr.add] using hc
  · simp [World.frozen?, hg]
end Go.Proofs.YtogagkgkmoppmaaGreatDoor
namespace Go.Proofs.YtogagkgkmoppmaaGreatDoor
set_option linter.unusedVariables false
set_option linter.unusedSimpArgs false
open Go.RowKit GM Go.Shelf
set_option maxHeartbeats 4000000 in
theorem vless_any (x y : Ev) (W : World) : Calls Tryz.prog 62 #[.agg (evA x), .agg (evA y)] W fun e w' => e = .returned (.int .i64 (cmpZ x.vn y.vn)) ∧ ∃ q os', w' = Sort.grow (W.drewN q) os' := by
  have HC := Lib.hid (fun a b w => cmpU_any a b w)
  obtain ⟨r, hr⟩ : ∃ r, r = cmpZ x.vn y.vn := ⟨_, rfl⟩
  rw [← hr]
  obtain ⟨cx, hcx⟩ : ∃ cx, cx = evA x := ⟨_, rfl⟩
  obtain ⟨cy, hcy⟩ : ∃ cy, cy = evA y := ⟨_, rfl⟩
  rw [← hcx, ← hcy]
  obtain ⟨W2, hW2⟩ : ∃ W2, W2 = (W.alloc (.cells cx 36)).alloc (.cells cy 36) := ⟨_, rfl⟩
  have h1 : W2.heap[W.heap.size]? = some (.cells cx 36 (0, 0)) := by
    rw [hW2]
    exact (heap_alloc_old _ _ (by simp)).trans (heap_alloc_new W _)
  have h2 : W2.heap[W.heap.size + 1]? = some (.cells cy 36 (0, 0)) := by
    rw [hW2]
    have := heap_alloc_new (W.alloc (.cells cx 36)) (.cells cy 36)
    rwa [World.size_alloc] at this
  rw [hcx] at h1
  rw [hcy] at h2
  have e1 : W2.cell? ⟨W.heap.size, 13, none⟩ = some (.int .u64 x.vn) := cell_of_row _ _ 13 _ _ _ h1
  have e2 : W2.cell? ⟨W.heap.size + 1, 13, none⟩ = some (.int .u64 y.vn) := cell_of_row _ _ 13 _ _ _ h2
  have HG := Lib.hid (show ∃ os', W2 = Sort.grow W os' from ⟨_, by rw [hW2, Sort.alloc_eq_grow, Sort.alloc_eq_grow, Sort.grow_grow]⟩)
  have HR := Lib.hid hr
  clear h1 h2 hcx hcy hr
  go_enter Tryz.func62, Tryz.ntmps62
  go_upto_region 1 with (fail)
  rw [← hW2]
  clear hW2
  go_wp2_with (go_at_call 56; refine (HC.out _ _ _).mono ?_; rintro e w' ⟨rfl, rfl⟩)
  go_ret
  obtain ⟨os', h⟩ := HG.out
  exact ⟨by rw [HR.out]; rfl, 0, os', h⟩
theorem sort_any (L : List (Int × Ev)) (ks : List Nat) (n0 : Nat) (v : Value) (W : World) (hn0 : n0 ≤ W.heap.size) (h : W.ownsRow n0 36 19 v ks.length (rowsE (ks.map (evK L)))) (h5 : ks.length ≤ 500) :
    Calls Tryz.prog 81 #[v, .func (.func 62) #[] #[]] W fun e w' => e = .returned (.tuple #[]) ∧ w'.ownsRow n0 36 19 v ks.length (rowsE ((sortZ ks).map (evK L))) ∧ Below n0 W w' := by
  rcases h.2 with ⟨rfl, h0⟩ | ⟨g, cap, cur, rfl, hbg, hg, hnc, hcm, hcs, ht⟩
  · obtain rfl : ks = [] := List.eq_nil_of_length_eq_zero h0
    have hz : sortZ [] = [] := List.eq_nil_of_length_eq_zero (by rw [(sortZ_perm []).length_eq]; rfl)
    refine (sort_none _ W).mono ?_
    rintro e w' ⟨rfl, rfl⟩
    exact ⟨rfl, by rw [hz]; exact h, Below.refl _ _⟩
  · have eg : ∀ args w, (callFunc 62 args).run Tryz.prog w = .ok (.enter 62 args) w := enters_of Tryz.func62 (by kernel_rfl) rfl
    have hcon := AnyQ.slices_SortFunc_total Tryz.sortEv 19 Tryz.isAgg36 Tryz.sizeOf36 (encK L) (encK_len L) (fun k => evA_ones (evK L k)) cmpN swoZ 62 #[] g 0 cap ks.toArray W eg
      (fun m os dk hs x y => vless_any (evK L x) (evK L y) _) (holdsK_row L h) (Array.getElem?_eq_some_iff.1 hg).1 (by simp; omega) (fun x y h1 h2 => by rw [ltZ] at h1 h2; simp at h1 h2; omega)
    change Calls Tryz.prog 81 _ _ _ at hcon
    refine hcon.mono ?_
    rintro e w' ⟨rfl, m, os, rfl⟩
    have h2 := ownsRow_sorted L (m := m) (os := os) h (ks' := sortZ ks) (sortZ_perm ks).length_eq hn0
    exact ⟨rfl, h2.1, h2.2⟩
set_option maxHeartbeats 4000000 in
theorem collect_any (Bm mb : Nat) (L : List (Int × Ev)) (hL5 : L.length ≤ 500) (w : World) (hl : Bm < w.heap.size) (hm : w.cell? ⟨Bm, 0, none⟩ = some (.map (some mb))) (hg : GMap uV w mb (vals evV L)) :
    Calls Tryz.prog 80 #[.func (.func 82) #[] #[.pointer (some ⟨Bm, 0, none⟩)]] w (AppEnd w L) := by
  have HA := Lib.hid (appendSeq_any Bm mb L hL5 w hl hm hg)
  clear hm hg
  go_enter Tryz.func80, Tryz.ntmps80
  go_wp2_with fail
  refine HA.out.mono ?_
  rintro e w' ⟨v, ks, ⟨rfl, h1, h2⟩, h3⟩
  have HE := Lib.hid (And.intro h1 (And.intro h2 h3))
  clear h1 h2 h3 HA
  go_wp2_with fail
  go_ret
  exact ⟨_, ks, ⟨rfl, HE.out.1, HE.out.2.1⟩, HE.out.2.2⟩
/-- a map's events, by rising numbers -/
def sortedE (L : List (Int × Ev)) : List Ev := (sortZ (L.map fun p => p.2.vn)).map (evK L)
theorem sortedE_len (L : List (Int × Ev)) : (sortedE L).length = L.length := by
  unfold sortedE
  rw [List.length_map, (sortZ_perm _).length_eq, List.length_map]
theorem evK_of {L : List (Int × Ev)} (hn : (L.map (·.1)).Nodup) (hk : ∀ p ∈ L, p.1 = (p.2.vn : Int)) {p : Int × Ev} (hp : p ∈ L) : evOf L p.1 = evK L p.1.toNat ∧ evK L p.2.vn = p.2 := by
  have h1 := evOf_mem hn hp
  have h2 := hk p hp
  have h3 : p.1.toNat = p.2.vn := by omega
  have h4 : evK L p.2.vn = p.2 := by
    unfold evK
    rw [← h2, h1]
  exact ⟨by rw [h3, h4, h1], h4⟩
theorem sortedE_mem {L : List (Int × Ev)} (hn : (L.map (·.1)).Nodup) (hk : ∀ p ∈ L, p.1 = (p.2.vn : Int)) {x : Ev} (hx : x ∈ sortedE L) : ∃ p ∈ L, p.2 = x := by
  obtain ⟨k, hk1, rfl⟩ := List.mem_map.1 hx
  obtain ⟨p, hp, rfl⟩ := List.mem_map.1 ((sortZ_perm _).mem_iff.1 hk1)
  exact ⟨p, hp, (evK_of hn hk hp).2.symm⟩
set_option maxHeartbeats 4000000 in
theorem sorted_any (Bm mb : Nat) (L : List (Int × Ev)) (hL5 : L.length ≤ 500) (hk : ∀ p ∈ L, p.1 = (p.2.vn : Int)) (w : World) (hl : Bm < w.heap.size) (hm : w.cell? ⟨Bm, 0, none⟩ = some (.map (some mb))) (hg : GMap uV w mb (vals evV L)) :
    Calls Tryz.prog 60 #[.func (.func 82) #[] #[.pointer (some ⟨Bm, 0, none⟩)], .func (.func 62) #[] #[]] w fun e w' =>
      ∃ v, e = .returned v ∧ w'.ownsRow w.heap.size 36 19 v L.length (rowsE (sortedE L)) ∧ Below w.heap.size w w' := by
  have hn : (L.map (·.1)).Nodup := by
    have e : (vals evV L).map (·.1) = L.map (·.1) := by unfold vals; rw [List.map_map]; rfl
    rw [← e]
    exact hg.1
  have HA := Lib.hid (collect_any Bm mb L hL5 w hl hm hg)
  have HS := Lib.hid (fun ks n0 v W h1 h2 h3 => sort_any L ks n0 v W h1 h2 h3)
  have HN := Lib.hid hn
  clear hm hg hn
  go_enter Tryz.func60, Tryz.ntmps60
  go_wp2_with fail
  refine HA.out.mono ?_
  rintro e w' ⟨v, ks, ⟨rfl, h1, h2⟩, h3⟩
  have hlen : ks.length = L.length := by rw [h1.length_eq, List.length_map]
  obtain ⟨ns, hns⟩ : ∃ ns, ns = ks.map Int.toNat := ⟨_, rfl⟩
  have hrows : rowsK L ks = rowsE (ns.map (evK L)) := by
    unfold rowsK
    rw [hns, List.map_map]
    congr 1
    refine List.map_congr_left fun k hk2 => ?_
    obtain ⟨p, hp, rfl⟩ := List.mem_map.1 (h1.mem_iff.1 hk2)
    exact (evK_of HN.out hk hp).1
  have hsort : sortZ ns = sortZ (L.map fun p => p.2.vn) := by
    refine sortZ_uniq ?_
    have h4 : (L.map (·.1)).map Int.toNat = L.map fun p => p.2.vn := by
      rw [List.map_map]
      refine List.map_congr_left fun p hp => ?_
      have := hk p hp
      show p.1.toNat = p.2.vn
      omega
    rw [hns, ← h4]
    exact h1.map _
  have hnl : ns.length = ks.length := by rw [hns, List.length_map]
  rw [hrows, ← hnl] at h2
  have HE := Lib.hid (And.intro h2 (And.intro h3 (And.intro hsort (show ns.length = L.length from hnl.trans hlen))))
  clear h1 h2 h3 HA hrows hsort hnl hlen hns
  go_wp2_with fail
  refine (HS.out ns w.heap.size v w' HE.out.2.1.size HE.out.1 (by rw [HE.out.2.2.2]; exact hL5)).mono ?_
  rintro e w2 ⟨rfl, h4, h5⟩
  have HF := Lib.hid (And.intro h4 h5)
  clear h4 h5 HS
  go_wp2_with fail
  go_ret
  refine ⟨_, rfl, ?_, HE.out.2.1.trans HF.out.2⟩
  have h6 := HF.out.1
  rw [HE.out.2.2.1, HE.out.2.2.2] at h6
  exact h6
end Go.Proofs.YtogagkgkmoppmaaGreatDoor
namespace Go.Proofs.YtogagkgkmoppmaaGreatDoor
set_option linter.unusedVariables false
/-- the set of one process -/
def oneS (p : Int) : Nat := if 0 ≤ p ∧ p < 64 then 2 ^ p.toNat else 0
/-- has a set a process? -/
def hasS (s : Nat) (p : Int) : Bool := decide (0 ≤ p ∧ p < 64) && s.testBit p.toNat
/-- all of a set, rising -/
def listS (s : Nat) : List Nat := (List.range 64).filter fun p => s.testBit p
theorem oneS_lt (p : Int) : oneS p < 18446744073709551616 := by
  unfold oneS
  split
  · next h => exact Nat.lt_of_le_of_lt (Nat.pow_le_pow_right (n := 2) (by decide) (show p.toNat ≤ 63 by omega)) (by decide)
  · decide
theorem and_one (s : Nat) (p : Int) : (s &&& oneS p ≠ 0) ↔ hasS s p = true := by
  unfold oneS hasS
  split
  · next h =>
    simp only [h, and_self, decide_true, Bool.true_and]
    cases hb : s.testBit p.toNat with
    | false =>
      have : s &&& 2 ^ p.toNat = 0 := by
        apply Nat.eq_of_testBit_eq
        intro j
        rw [Nat.testBit_and, Nat.testBit_two_pow]
        by_cases hj : p.toNat = j
        · subst hj; simp [hb]
        · simp [hj]
      simp [this]
    | true =>
      have : s &&& 2 ^ p.toNat ≠ 0 := fun e => by
        have h1 : (s &&& 2 ^ p.toNat).testBit p.toNat = true := by rw [Nat.testBit_and, hb, Nat.testBit_two_pow]; simp
        rw [e] at h1
        simp at h1
      simp [this]
  · next h => simp [h]
theorem mem_listS {s p : Nat} : p ∈ listS s ↔ p < 64 ∧ s.testBit p = true := by simp [listS]
theorem mem_hasS {s p : Nat} : p ∈ listS s ↔ hasS s (p : Int) = true := by
  rw [mem_listS]
  unfold hasS
  simp
  omega
theorem listS_len (s : Nat) : (listS s).length ≤ 64 := by
  have := List.length_filter_le (fun p => s.testBit p) (List.range 64)
  simpa [listS] using this
theorem listS_rises (s : Nat) : (listS s).Pairwise (· < ·) := List.Pairwise.filter _ List.pairwise_lt_range
/-- the lowest one, and the rest -/
theorem bits_low {x k m : Nat} (hx : x = 2 ^ k * (2 * m + 1)) (j : Nat) : x.testBit j = if j < k + 1 then decide (k = j) else m.testBit (j - (k + 1)) := by
  have e : x = 2 ^ (k + 1) * m + 2 ^ k := by rw [hx, Nat.pow_succ, Nat.mul_add, Nat.mul_one, Nat.mul_assoc]
  rw [e, Nat.testBit_two_pow_mul_add m (Nat.pow_lt_pow_right (by decide) (by omega)), Nat.testBit_two_pow]
theorem bits_less {x k m : Nat} (hx : x = 2 ^ k * (2 * m + 1)) (j : Nat) : (x - 1).testBit j = if j < k + 1 then decide (j < k) else m.testBit (j - (k + 1)) := by
  have h0 : 0 < 2 ^ k := Nat.pow_pos (by decide)
  have e : x - 1 = 2 ^ (k + 1) * m + (2 ^ k - 1) := by
    have : x = 2 ^ (k + 1) * m + 2 ^ k := by rw [hx, Nat.pow_succ, Nat.mul_add, Nat.mul_one, Nat.mul_assoc]
    omega
  have h1 : 2 ^ k < 2 ^ (k + 1) := Nat.pow_lt_pow_right (by decide) (by omega)
  rw [e, Nat.testBit_two_pow_mul_add m (by omega), Nat.testBit_two_pow_sub_one]
theorem filter_first {P Q : Nat → Bool} {n k : Nat} (hk : k < n) (h1 : P k = true) (h2 : ∀ j, j < k → P j = false) (h3 : ∀ j, Q j = (P j && decide (j ≠ k))) : (List.range n).filter P = k :: (List.range n).filter Q := by
  obtain ⟨d, rfl⟩ : ∃ d, n = k + (d + 1) := ⟨n - k - 1, by omega⟩
  have e1 : (List.range k).filter P = [] := List.filter_eq_nil_iff.2 fun j hj => by rw [h2 j (List.mem_range.1 hj)]; simp
  have e2 : (List.range k).filter Q = [] := List.filter_eq_nil_iff.2 fun j hj => by rw [h3, h2 j (List.mem_range.1 hj)]; simp
  have e3 : Q k = false := by rw [h3]; simp
  rw [List.range_add, List.filter_append, List.filter_append, e1, e2, List.nil_append, List.nil_append, List.range_succ_eq_map, List.map_cons, Nat.add_zero, List.filter_cons_of_pos h1, List.filter_cons_of_neg (by rw [e3]; simp)]
  congr 1
  refine List.filter_congr fun j hj => ?_
  obtain ⟨i, hi, rfl⟩ := List.mem_map.1 hj
  obtain ⟨q, hq, rfl⟩ := List.mem_map.1 hi
  rw [h3, decide_eq_true (by omega : k + (q + 1) ≠ k), Bool.and_true]
theorem listS_step {x : Nat} (h0 : x ≠ 0) (hx : x < 18446744073709551616) : listS x = Lib.ctz 64 x :: listS (x &&& (x - 1)) ∧ Lib.ctz 64 x < 64 := by
  obtain ⟨m, hm, hk⟩ := Lib.ctzFrom_spec 64 x (by omega) hx
  have e : Lib.ctz 64 x = Lib.ctzFrom 64 x := by simp [Lib.ctz, h0]
  rw [e]
  refine ⟨?_, hk⟩
  generalize Lib.ctzFrom 64 x = k at *
  unfold listS
  refine filter_first hk ?_ ?_ ?_
  · rw [bits_low hm, if_pos (by omega)]; simp
  · intro j hj
    rw [bits_low hm, if_pos (by omega)]
    simp; omega
  · intro j
    rw [Nat.testBit_and, bits_less hm, bits_low hm]
    by_cases hj : j < k + 1
    · rw [if_pos hj, if_pos hj]
      by_cases hjk : k = j
      · subst hjk; simp
      · simp [hjk]
    · rw [if_neg hj, if_neg hj, decide_eq_true (by omega : j ≠ k)]
      simp
theorem listS_zero : listS 0 = [] := by simp [listS]
theorem and_lt {x y : Nat} (hx : x < 18446744073709551616) : x &&& y < 18446744073709551616 := Nat.lt_of_le_of_lt Nat.and_le_left hx
/-- one process more; without one -/
def withS (s : Nat) (p : Int) : Nat := s ||| oneS p
def butS (s t : Nat) : Nat := s &&& (18446744073709551615 - t)
theorem withS_lt {s : Nat} (h : s < 18446744073709551616) (p : Int) : withS s p < 18446744073709551616 := Nat.or_lt_two_pow (n := 64) h (oneS_lt p)
theorem butS_lt {s : Nat} (h : s < 18446744073709551616) (t : Nat) : butS s t < 18446744073709551616 := and_lt h
theorem hasS_with (s : Nat) (p q : Int) : hasS (withS s p) q = (hasS s q || (decide (q = p) && decide (0 ≤ p ∧ p < 64))) := by
  unfold hasS withS oneS
  by_cases hq : 0 ≤ q ∧ q < 64
  · simp only [hq, and_self, decide_true, Bool.true_and, Nat.testBit_or]
    congr 1
    by_cases hp : 0 ≤ p ∧ p < 64
    · rw [if_pos hp, Nat.testBit_two_pow]
      simp only [hp, and_self, decide_true, Bool.and_true]
      rw [Bool.eq_iff_iff]
      simp
      omega
    · rw [if_neg hp]
      simp [hp]
  · rw [decide_eq_false hq, Bool.false_and, Bool.false_and, Bool.false_or]
    by_cases hp : 0 ≤ p ∧ p < 64
    · have : q ≠ p := fun e => hq (e ▸ hp)
      simp [this]
    · simp [hp]
theorem hasS_less (s : Nat) (p q : Int) : hasS (butS s (oneS p)) q = (hasS s q && decide (q ≠ p)) := by
  unfold hasS butS
  by_cases hq : 0 ≤ q ∧ q < 64
  · simp only [hq, and_self, decide_true, Bool.true_and, Nat.testBit_and]
    congr 1
    have h := oneS_lt p
    rw [show 18446744073709551615 - oneS p = 2 ^ 64 - (oneS p + 1) by omega, Nat.testBit_two_pow_sub_succ (by omega)]
    have : q.toNat < 64 := by omega
    unfold oneS
    by_cases hp : 0 ≤ p ∧ p < 64
    · rw [if_pos hp, Nat.testBit_two_pow, Bool.eq_iff_iff]
      simp [this]
      omega
    · rw [if_neg hp, Bool.eq_iff_iff]
      simp [this]
      exact fun e => hp (e ▸ hq)
  · rw [decide_eq_false hq, Bool.false_and, Bool.false_and, Bool.false_and]
end Go.Proofs.YtogagkgkmoppmaaGreatDoor
namespace Go.Proofs.YtogagkgkmoppmaaGreatDoor
set_option linter.unusedVariables false
set_option linter.unusedSimpArgs false
open Go.RowKit
/-- the table of math/bits, as its initialiser lays it -/
def Tab (w : World) : Prop := TabAt 0 Lib.deBruijn64tab w
theorem Tab.below {w w' : World} {B : Nat} (h : Tab w) (hb : Below B w w') (hB : 0 < B) : Tab w' := fun j hj => (hb.cell (p := ⟨_, j, none⟩) hB).trans (h j hj)
theorem cell_ltS {w : World} {p : Addr} {v : Value} (h : w.cell? p = some v) : p.block < w.heap.size := by
  rcases Nat.lt_or_ge p.block w.heap.size with h' | h'
  · exact h'
  · unfold World.cell? at h
    rw [Array.getElem?_eq_none h'] at h
    cases h
theorem Tab.lt {w : World} (h : Tab w) : 0 < w.heap.size := cell_ltS (h 0 (by decide))
theorem Tab.kept {w w' : World} {S : Nat → Prop} (h : Tab w) (hk : Kept S w w') (hs : ¬ S 0) : Tab w' := fun j hj => (hk.cell (p := ⟨_, j, none⟩) h.lt hs).trans (h j hj)
theorem sBit_any (p : Int) (w : World) : Calls Tryz.prog 63 #[.int .i64 p] w fun e w' => e = .returned (.int .u64 (oneS p : Int)) ∧ w = w' := by
  unfold oneS
  by_cases h1 : p < 0
  · have d1 : decide (p < 0) = true := by simpa using h1
    rw [if_neg (by omega)]
    go_enter Tryz.func63, Tryz.ntmps63
    go_wp2
    go_ret
    exact ⟨rfl, rfl⟩
  · by_cases h2 : p < 64
    · have d1 : decide (p < 0) = false := by simpa using h1
      have d2 : decide (64 ≤ p) = false := by simpa using h2
      rw [if_pos (by omega)]
      obtain ⟨n, rfl⟩ : ∃ n : Nat, p = (n : Int) := ⟨p.toNat, by omega⟩
      have hn : n < 64 := by omega
      have hp : 2 ^ n ≤ 2 ^ 63 := Nat.pow_le_pow_right (by omega) (by omega)
      have hw : IntKind.u64.wrap (2 ^ n) = ((2 ^ n : Nat) : Int) := by
        rw [IntKind.wrap_u64]
        have e1 : ((2 : Int) ^ n) = ((2 ^ n : Nat) : Int) := by simp
        rw [e1]
        generalize 2 ^ n = m at *
        omega
      show Calls Tryz.prog 63 #[.int .i64 (n : Int)] w fun e w' => e = .returned (.int .u64 ((2 ^ n : Nat) : Int)) ∧ w = w'
      generalize hm : ((2 ^ n : Nat) : Int) = m at hw ⊢
      clear hp hm
      go_enter Tryz.func63, Tryz.ntmps63
      go_wp2
      go_ret
      exact ⟨rfl, rfl⟩
    · have d1 : decide (p < 0) = false := by simpa using h1
      have d2 : decide (64 ≤ p) = true := by simp; omega
      rw [if_neg (by omega)]
      go_enter Tryz.func63, Tryz.ntmps63
      go_wp2
      go_ret
      exact ⟨rfl, rfl⟩
theorem sHas_any (s : Nat) (p : Int) (hs : s < 18446744073709551616) (w : World) : Calls Tryz.prog 50 #[.int .u64 (s : Int), .int .i64 p] w fun e w' => e = .returned (.bool (hasS s p)) ∧ w = w' := by
  have hb : (bits .and .u64 (s : Int) (oneS p : Int) != 0) = hasS s p := by
    rw [bits_and_u64_nat s _ hs (oneS_lt p), Bool.eq_iff_iff, ← and_one s p]
    simp [bne_iff_ne]
  rw [← hb]
  clear hb
  go_enter Tryz.func50, Tryz.ntmps50
  go_wp2_with fail
  refine (sBit_any p w).mono ?_
  rintro e w' ⟨rfl, rfl⟩
  go_wp2_with fail
  go_ret
  exact ⟨rfl, rfl⟩
theorem setBut_any (s t : Nat) (hs : s < 18446744073709551616) (ht : t < 18446744073709551616) (w : World) : Calls Tryz.prog 75 #[.int .u64 (s : Int), .int .u64 (t : Int)] w fun e w' => e = .returned (.int .u64 (butS s t : Int)) ∧ w = w' := by
  have hb : bits .andNot .u64 (s : Int) (t : Int) = (butS s t : Int) := u64_andNot_nat s t hs ht
  rw [← hb]
  clear hb
  go_enter Tryz.func75, Tryz.ntmps75
  go_wp2
  go_ret
  exact ⟨rfl, rfl⟩
/-- a row of numbers -/
def intsL (l : List Int) : List Value := l.map fun i => .int .i64 i
theorem intsL_len (l : List Int) : (intsL l).length = l.length := by simp [intsL]
def withAll (s : Nat) (l : List Int) : Nat := l.foldl withS s
theorem withAll_lt : ∀ (l : List Int) {s : Nat}, s < 18446744073709551616 → withAll s l < 18446744073709551616
  | [], s, h => h
  | p :: l, s, h => withAll_lt l (withS_lt h p)
set_option maxHeartbeats 1000000 in
theorem tz64_core (x k idx : Nat) (w : World) (hx0 : ((x : Int) == 0) = false)
    (key : IntKind.u64.wrap (bits BinOp.and IntKind.u64 (x : Int) (IntKind.u64.wrap (-(x : Int))) * 285870213051353865) / 288230376151711744 = (idx : Int))
    (hi : idx < 64) (hk : k < 64) (hcell : w.cell? ⟨0, idx, none⟩ = some (.int .u8 (k : Int))) :
    Calls Tryz.prog 84 #[.int .u64 (x : Int)] w fun e w' => e = .returned (.int .i64 (k : Int)) ∧ w = w' := by
  go_enter Tryz.func84, Tryz.ntmps84
  go_wp2_with (simp only [key])
  go_ret
  exact ⟨rfl, rfl⟩
theorem tz64_any (x : Nat) (hx : x < 18446744073709551616) (hx0 : x ≠ 0) (w : World) (hT : Tab w) :
    Calls Tryz.prog 84 #[.int .u64 (x : Int)] w fun e w' => e = .returned (.int .i64 (Lib.ctz 64 x : Int)) ∧ w = w' := by
  obtain ⟨hlow, hk⟩ := Lib.lowest_bit 64 x hx0 hx
  obtain ⟨hi, htab⟩ := Lib.deBruijn64_at _ hk
  have hcell := hT _ hi
  rw [htab] at hcell
  exact tz64_core x _ _ w (by simp; omega) (tz64_key x _ hx hx0 hlow) hi hk hcell
theorem setMin_any (x : Nat) (hx : x < 18446744073709551616) (hx0 : x ≠ 0) (w : World) (hT : Tab w) :
    Calls Tryz.prog 66 #[.int .u64 (x : Int)] w fun e w' => e = .returned (.int .i64 (Lib.ctz 64 x : Int)) ∧ w = w' := by
  have HC := Lib.hid (tz64_any x hx hx0 w hT)
  have h0 : ((x : Int) == 0) = false := by simp; omega
  clear hT hx hx0
  generalize (Lib.ctz 64 x : Int) = k at *
  generalize (x : Int) = z at *
  go_enter Tryz.func66, Tryz.ntmps66
  go_wp2_with fail
  refine HC.out.mono ?_
  rintro e w' ⟨rfl, rfl⟩
  go_wp2_with fail
  go_ret
  exact ⟨rfl, rfl⟩
theorem reads_oneS (w : World) (v : Value) (t : TypeId) : Reads (w.alloc (.cells #[v] t)) (w.heap.size + 1) 1 (some ⟨w.heap.size, 0, none⟩) 1 [v] :=
  ⟨rfl, fun _ => ⟨_, rfl, by show w.heap.size < w.heap.size + 1; omega, fun j u hu => new_cells w [v] t j u hu⟩⟩
def natsL (l : List Nat) : List Value := l.map fun i : Nat => .int .i64 (i : Int)
theorem natsL_len (l : List Nat) : (natsL l).length = l.length := by simp [natsL]
/-- what List leaves -/
def ListEnd (w : World) (s : Nat) (e : Ending) (w' : World) : Prop := ∃ ad cap, e = .returned (.slice ad (listS s).length cap) ∧ w'.ownsRow w.heap.size 3 1 (.slice ad (listS s).length cap) (listS s).length (natsL (listS s)) ∧ Below w.heap.size w w'
theorem info3 : (Tryz.prog.info? 3).map (fun i => (i.zero, i.size, i.bytes)) = some (some (.int .i64 0), 1, 8) := by kernel_rfl
set_option maxRecDepth 100000 in
set_option maxHeartbeats 2000000 in
theorem setList_any (s : Nat) (hs : s < 18446744073709551616) (w : World) (hT : Tab w) : Calls Tryz.prog 34 #[.int .u64 (s : Int)] w (ListEnd w s) := by
  obtain ⟨i0, hi, hz0, hz1, hz2⟩ := info_parts info3
  have HT := Lib.hid hT
  have HS := Lib.hid hs
  clear hT hs
  go_enter Tryz.func34, Tryz.ntmps34
  go_wp2_with fail
  go_loopw [3, 4] (fun v t wr => ∃ (x : Nat) (L : List Nat), Hid (x < 18446744073709551616 ∧ L ++ listS x = listS s ∧ L.length + (listS x).length = (listS s).length ∧ L.length ≤ 64) ∧ t = .int .u64 (x : Int) ∧ wr.ownsRow w.heap.size 3 1 v L.length (natsL L) ∧ Below w.heap.size w wr) (fun _ t _ => (listS (intOf t).toNat).length)
  case atStart => exact ⟨s, [], ⟨HS.out, rfl, by simp, by simp⟩, rfl, ⟨rfl, .inl ⟨rfl, rfl⟩⟩, br _⟩
  case round =>
    obtain ⟨x, L, HX, rfl, ho, hb⟩ := hrel
    by_cases h0 : x = 0
    · subst h0
      have e := HX.out.2.1
      rw [listS_zero, List.append_nil] at e
      subst e
      obtain ⟨ad, cap, rfl⟩ := ownForm ho
      have HE := Lib.hid (show ListEnd w s (.returned (.slice ad (listS s).length cap)) wr from ⟨ad, cap, rfl, ho, hb⟩)
      clear ho hb
      go_wp2_with fail
      go_ret
      exact HE.out
    · obtain ⟨hst, hk⟩ := listS_step h0 HX.out.1
      have hne : ((x : Int) != 0) = true := by simp; omega
      have HM := Lib.hid (setMin_any x HX.out.1 h0 wr (HT.out.below hb HT.out.lt))
      have hsub : IntKind.u64.wrap ((x : Int) - 1) = ((x - 1 : Nat) : Int) := by
        have := HX.out.1
        rw [IntKind.wrap_u64]
        omega
      have hand : bits .and .u64 (x : Int) ((x - 1 : Nat) : Int) = ((x &&& (x - 1) : Nat) : Int) := bits_and_u64_nat x _ HX.out.1 (by have := HX.out.1; omega)
      obtain ⟨ad, cap, rfl⟩ := ownForm ho
      obtain ⟨k, hk1⟩ : ∃ k, k = Lib.ctz 64 x := ⟨_, rfl⟩
      rw [← hk1] at hst hk HM
      obtain ⟨y, hy⟩ : ∃ y, y = x &&& (x - 1) := ⟨_, rfl⟩
      have HY := Lib.hid (show y < 18446744073709551616 ∧ listS x = k :: listS y from ⟨by rw [hy]; exact and_lt HX.out.1, by rw [hy]; exact hst⟩)
      rw [← hy] at hand
      clear hst hk1 hy
      have HO := Lib.hid (ho.alloc (.cells #[.int .i64 (k : Int)] 3))
      have HR1 := Lib.hid (reads_oneS wr (.int .i64 (k : Int)) 3)
      have HB := Lib.hid hb
      have hL : L.length < 64 := by
        have h1 := HX.out.2.2.1
        rw [HY.out.2] at h1
        have := listS_len s
        simp at h1
        omega
      clear ho hb
      go_wp2_with fail
      refine HM.out.mono ?_
      rintro e w2 ⟨rfl, rfl⟩
      obtain ⟨n, hn⟩ : ∃ n, n = L.length := ⟨_, rfl⟩
      rw [← hn] at HO hL ⊢
      have HN := Lib.hid hn
      clear hn HM
      go_wp2_with (at_builtin; refine wpList_append_any _ rfl (.tmp 12) (.tmp 15) 74 rfl w.heap.size 3 i0 _ 1 8 Tryz.underlying74 hi hz0 hz1 hz2 rfl (by decide) _ n _ rfl HO.out _ _ 1 _ _ rfl HR1.out (by simp [Value.oneCell']) (by unfold maxLen; omega) (by omega) (by have := HB.out.size; simp; omega) ?_)
      intro v' wg ho hg hu
      have hbg : Below w.heap.size w wg := grownB (ba HB.out _) (by have := HB.out.size; simp; omega) hg (fun b hb => (HO.out.lt b hb).1)
      have ho' : wg.ownsRow w.heap.size 3 1 v' (L ++ [k]).length (natsL (L ++ [k])) := by
        have e : natsL (L ++ [k]) = natsL L ++ [.int .i64 (k : Int)] := by simp [natsL]
        rw [e, List.length_append, ← HN.out]
        exact ho
      have HE := Lib.hid (show (∃ (x' : Nat) (L' : List Nat), Hid (x' < 18446744073709551616 ∧ L' ++ listS x' = listS s ∧ L'.length + (listS x').length = (listS s).length ∧ L'.length ≤ 64) ∧ Value.int .u64 (y : Int) = .int .u64 (x' : Int) ∧ wg.ownsRow w.heap.size 3 1 v' L'.length (natsL L') ∧ Below w.heap.size w wg) ∧ (listS y).length < (listS x).length from
        ⟨⟨y, L ++ [k], ⟨HY.out.1, by rw [List.append_assoc, ← HX.out.2.1, HY.out.2]; rfl, by rw [← HX.out.2.2.1, HY.out.2]; simp; omega, by rw [List.length_append, ← HN.out]; simp; omega⟩, rfl, ho', hbg⟩, by rw [HY.out.2]; simp⟩)
      clear ho hg hu ho' hbg HO HR1 HB
      go_wp2_with fail
      exact HE.out
end Go.Proofs.YtogagkgkmoppmaaGreatDoor
namespace Go.Proofs.YtogagkgkmoppmaaGreatDoor
set_option linter.unusedVariables false
set_option linter.unusedSimpArgs false
open Go.RowKit GM
/-- a row of numbers that can be read -/
def RdI (w : World) (ad : Option Addr) (ds : List Int) : Prop := ∀ i (h : i < ds.length), ∃ B O, ad = some ⟨B, O, none⟩ ∧ B < w.heap.size ∧ w.cell? ⟨B, O + i, none⟩ = some (.int .i64 ds[i])
theorem RdI.below {w w' : World} {ad : Option Addr} {ds : List Int} (h : RdI w ad ds) (hb : Below w.heap.size w w') : RdI w' ad ds := fun i hi => by
  obtain ⟨B, O, e, hB, hc⟩ := h i hi
  exact ⟨B, O, e, Nat.lt_of_lt_of_le hB hb.size, (hb.cell (p := ⟨B, O + i, none⟩) hB).trans hc⟩
set_option maxHeartbeats 4000000 in
theorem eqI_any (aa bb : Option Addr) (ac bc : Nat) (xs ys : List Int) (w : World) (hx : RdI w aa xs) (hy : RdI w bb ys) (hxl : xs.length ≤ 9223372036854775807) (hyl : ys.length ≤ 9223372036854775807) :
    Calls Tryz.prog 32 #[.slice aa xs.length ac, .slice bb ys.length bc] w fun e w' => e = .returned (.bool (decide (xs = ys))) ∧ Below w.heap.size w w' := by
  obtain ⟨R, hR⟩ : ∃ R, R = decide (xs = ys) := ⟨_, rfl⟩
  rw [← hR]
  have HA := Lib.hid hx
  have HB := Lib.hid hy
  have HR := Lib.hid hR
  clear hx hy hR
  by_cases e4 : xs.length = ys.length
  · have d4 : ((xs.length : Int) == (ys.length : Int)) = true := by simp; omega
    have d4' : ((xs.length : Int) != (ys.length : Int)) = false := by simp; omega
    have f4 : xs.length ≤ ys.length := by omega
    have f4' : ys.length ≤ xs.length := by omega
    clear e4
    go_enter Tryz.func32, Tryz.ntmps32
    go_wp2
    go_loopw [13] (fun i wr => ∃ k : Nat, k ≤ xs.length ∧ i = .int .i64 (k : Int) ∧ Hid (xs.take k = ys.take k) ∧ Below w.heap.size w wr) (fun i _ => xs.length - (intOf i).toNat)
    case atStart => exact ⟨0, by omega, rfl, rfl, br _⟩
    case round =>
      obtain ⟨k, hk, rfl, HT, hbr⟩ := hrel
      have HBW := Lib.hid hbr
      by_cases hlt : k < xs.length
      · have hd : decide ((k : Int) < (xs.length : Int)) = true := by simpa using hlt
        have hlt2 : k < ys.length := by omega
        have hi1 : (k : Int) < (xs.length : Int) := by omega
        have hi2 : (k : Int) < (ys.length : Int) := by omega
        obtain ⟨B, O, rfl, hB, hc⟩ := HA.out k hlt
        obtain ⟨B', O', rfl, hB', hc'⟩ := HB.out k hlt2
        have y0 := (hbr.cell (p := ⟨B, O + k, none⟩) hB).trans hc
        have y1 := (hbr.cell (p := ⟨B', O' + k, none⟩) hB').trans hc'
        have ht := Lib.hid (And.intro (List.take_succ_eq_append_getElem hlt) (List.take_succ_eq_append_getElem hlt2))
        clear hc hc' hbr
        by_cases he : xs[k] = ys[k]
        · have g1 : (xs[k] == ys[k]) = true := by simp; omega
          have g2 : (xs[k] != ys[k]) = false := by simp; omega
          have HE := Lib.hid he
          clear he
          go_wp2
          go_quiet (fail)
          go_wp2
          exact ⟨⟨k + 1, by omega, by go_num, (show xs.take (k + 1) = ys.take (k + 1) from by rw [ht.out.1, ht.out.2, HT.out, HE.out]), bn HBW.out _⟩, by simp [intOf]; omega⟩
        · have g1 : (xs[k] == ys[k]) = false := by simp; omega
          have g2 : (xs[k] != ys[k]) = true := by simp; omega
          have hRf : R = false := by
            rw [HR.out]
            refine decide_eq_false fun h => he ?_
            subst h
            rfl
          subst hRf
          clear he
          go_wp2
          go_quiet (fail)
          go_wp2
          go_ret
          exact ⟨rfl, bn HBW.out _⟩
      · have hd : decide ((k : Int) < (xs.length : Int)) = false := by simpa using hlt
        have hRt : R = true := by
          have hds := HT.out
          rw [List.take_of_length_le (by omega), List.take_of_length_le (by omega)] at hds
          rw [HR.out]
          simp [hds]
        subst hRt
        go_wp2
        go_ret
        exact ⟨rfl, HBW.out⟩
  · have d4 : ((xs.length : Int) == (ys.length : Int)) = false := by simp; omega
    have d4' : ((xs.length : Int) != (ys.length : Int)) = true := by simp; omega
    have hRf : R = false := by rw [HR.out]; exact decide_eq_false fun h => e4 (by rw [h])
    subst hRf
    go_enter Tryz.func32, Tryz.ntmps32
    go_wp2
    go_ret
    exact ⟨rfl, br _⟩
theorem RdI.of {w : World} {B : Nat} {ad : Option Addr} {l : List Int} (h : Reads w B 1 ad l.length (intsL l)) (hB : B ≤ w.heap.size) (hs : ∀ p, ad = some p → p.spot = none) : RdI w ad l := fun i hi => by
  obtain ⟨p, e, hp, hc⟩ := h.2 (by omega)
  obtain ⟨b, o, s⟩ := p
  have := hs _ e
  simp only at this
  subst this
  refine ⟨b, o, e, Nat.lt_of_lt_of_le hp hB, ?_⟩
  have h := hc i (.int .i64 l[i]) (by simp [intsL, hi])
  rwa [show (⟨b, o, none⟩ : Addr).add i = ⟨b, o + i, none⟩ from by unfold Addr.add; split <;> simp_all] at h
theorem RdI.own {w : World} {B : Nat} {ad : Option Addr} {cap : Nat} {l : List Int} (h : w.ownsRow B 3 1 (.slice ad l.length cap) l.length (intsL l)) : RdI w ad l := fun i hi => by
  obtain ⟨g, c, hv, hg0, hg1⟩ := h.form (by omega)
  injection hv with e1 e2 e3
  refine ⟨g, 0, e1, hg1, ?_⟩
  have h := h.cells (g := g) (by rw [e1]; rfl) i (.int .i64 l[i]) (by simp [intsL, hi])
  rwa [show (⟨g, 0, none⟩ : Addr).add i = ⟨g, 0 + i, none⟩ from by unfold Addr.add; split <;> simp_all] at h
/-- how many of a set there are, as OnesCount64 says -/
theorem ones_ex (x : Int) : ∃ z : Int, ∀ w : World, Calls Tryz.prog 83 #[.int .u64 x] w fun e w' => e = .returned (.int .i64 z) ∧ w = w' := by
  apply Exists.intro
  intro w
  go_enter Tryz.func83, Tryz.ntmps83
  go_wp2_with fail
  go_ret
  exact ⟨rfl, rfl⟩
noncomputable def onesZ (x : Int) : Int := Classical.choose (ones_ex x)
theorem ones_any (x : Int) (w : World) : Calls Tryz.prog 83 #[.int .u64 x] w fun e w' => e = .returned (.int .i64 (onesZ x)) ∧ w = w' := Classical.choose_spec (ones_ex x) w
theorem setSize_any (x : Int) (w : World) : Calls Tryz.prog 65 #[.int .u64 x] w fun e w' => e = .returned (.int .i64 (onesZ x)) ∧ w = w' := by
  have HO := Lib.hid (fun W => ones_any x W)
  generalize onesZ x = z at *
  go_enter Tryz.func65, Tryz.ntmps65
  go_wp2_with fail
  refine (HO.out _).mono ?_
  rintro e w' ⟨rfl, rfl⟩
  go_wp2_with fail
  go_ret
  exact ⟨rfl, rfl⟩
theorem setBoth_any (x y : Int) (w : World) : Calls Tryz.prog 64 #[.int .u64 x, .int .u64 y] w fun e w' => e = .returned (.int .u64 (bits .and .u64 x y)) ∧ w = w' := by
  go_enter Tryz.func64, Tryz.ntmps64
  go_wp2_with fail
  go_ret
  exact ⟨rfl, rfl⟩
theorem most_ex (x y : Int) : ∃ b : Bool, ∀ w : World, Calls Tryz.prog 31 #[.int .u64 x, .int .u64 y] w fun e w' => e = .returned (.bool b) ∧ w = w' := by
  have HB := Lib.hid (fun W => setBoth_any x y W)
  obtain ⟨u, hu⟩ : ∃ u, u = bits .and .u64 x y := ⟨_, rfl⟩
  rw [← hu] at HB
  have HS1 := Lib.hid (fun W => setSize_any u W)
  have HS2 := Lib.hid (fun W => setSize_any y W)
  clear hu
  generalize onesZ u = z1 at *
  generalize onesZ y = z2 at *
  apply Exists.intro
  intro w
  go_enter Tryz.func31, Tryz.ntmps31
  go_wp2_with fail
  refine (HB.out _).mono ?_
  rintro e w' ⟨rfl, rfl⟩
  go_wp2_with fail
  refine (HS1.out _).mono ?_
  rintro e w' ⟨rfl, rfl⟩
  go_wp2_with fail
  refine (HS2.out _).mono ?_
  rintro e w' ⟨rfl, rfl⟩
  go_wp2_with fail
  go_ret
  exact ⟨rfl, rfl⟩
noncomputable def mostB (x y : Int) : Bool := Classical.choose (most_ex x y)
theorem most_any (x y : Int) (w : World) : Calls Tryz.prog 31 #[.int .u64 x, .int .u64 y] w fun e w' => e = .returned (.bool (mostB x y)) ∧ w = w' := Classical.choose_spec (most_ex x y) w
end Go.Proofs.YtogagkgkmoppmaaGreatDoor
