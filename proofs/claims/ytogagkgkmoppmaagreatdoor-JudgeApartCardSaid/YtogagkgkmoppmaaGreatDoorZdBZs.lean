/-
  An empty map's values, collected and sorted: nothing.
  Conditions: those that each theorem names.
-/
import Derived.Test.YtogagkgkmoppmaaGreatDoorJuAZs
import Derived.Test.YtogagkgkmoppmaaGreatDoorJuQ
import Derived.RangeFuncFrom
import Derived.WalkKit
import Derived.Shelf.Abstract
import Derived.OwnWalkIn
import Derived.TacticsInMore
import Derived.Deep.MidRow
import Derived.Laws.Tables
import Derived.Maps.RangeRun
import Derived.RangeFuncNested
import Derived.RangeFuncBound
import Derived.RangeFuncCalls
import Derived.RangeFuncLeaves
import Derived.Shelf.RegionOpen
import Derived.LoopNIn
import Derived.LoopIn
import Derived.Test.YtogagkgkmoppmaaGreatDoorJuE
namespace Go.Proofs.YtogagkgkmoppmaaGreatDoor
set_option linter.unusedVariables false
set_option linter.unusedSimpArgs false
open Go.RowKit GM Go.Shelf
theorem mapAt_below {w w' : World} {mb clock : Nat} (hb : w.heap[mb]? = some (.map #[] clock)) (h : Below w.heap.size w w') : w'.heap[mb]? = some (.map #[] clock) := (h.block _ (Array.getElem?_eq_some_iff.1 hb).1).trans hb
theorem stops_none (Bm mb clock : Nat) (w : World) (hl : Bm < w.heap.size) (hm : w.cell? ⟨Bm, 0, none⟩ = some (.map (some mb))) (hb : w.heap[mb]? = some (.map #[] clock)) (n : Nat) :
    SeqStopsK (α := Empty) Fence.wide n Tryz.prog 82 #[.pointer (some ⟨Bm, 0, none⟩)] (fun x => x.elim) (fun _ _ => True) (fun xs => xs = []) (fun _ => False) 0 w := fun l J Jx W hW hJ hJx hY h0 =>
  callsIn_wide.2 ((values1_none (.func (.yield l) #[] #[]) Bm mb clock W ((hW.cell (p := ⟨Bm, 0, none⟩) hl).trans hm) (mapAt_below hb hW)).mono fun e W' ⟨h1, h2⟩ =>
    ⟨⟨_, h1⟩, .inl ⟨[], rfl, by rw [h2]; exact hJ [] W _ none h0 (World.grownBy_alloc W _ none) (fun r e => by cases e)⟩⟩)
set_option maxRecDepth 100000 in
set_option maxHeartbeats 4000000 in
theorem appendSeq_none (Bm mb clock : Nat) (w : World) (hl : Bm < w.heap.size) (hm : w.cell? ⟨Bm, 0, none⟩ = some (.map (some mb))) (hb : w.heap[mb]? = some (.map #[] clock)) :
    Calls Tryz.prog 87 #[.slice none 0 0, .func (.func 82) #[] #[.pointer (some ⟨Bm, 0, none⟩)]] w fun e w' => e = .returned (.slice none 0 0) ∧ Below w.heap.size w w' := by
  refine (callsIn_wide (n := 4)).1 ?_
  refine callsIn_of_wp_marks Tryz.func87 rfl trivial ?_ rfl
  simp only [Tryz.ntmps87, List.size_toArray, List.length_cons, List.length_nil, Nat.reduceAdd, Nat.reduceSub, Array.replicate_succ, Array.replicate_zero, List.push_toArray, List.append_toArray, List.nil_append, List.cons_append]
  gi_wp2
  obtain ⟨W0, hW0⟩ : ∃ W0, W0 = w.alloc (.cells #[.slice none 0 0] 22) := ⟨_, rfl⟩
  have hb0 : Below w.heap.size w W0 := by rw [hW0]; exact ba (br w) _
  have hbox : W0.cell? ⟨w.heap.size, 0, none⟩ = some (.slice none 0 0) := by rw [hW0]; exact cell_of_row _ _ 0 _ _ _ (heap_alloc_new w _)
  rw [← hW0]
  refine wpIn_rangeFunc_ownF (α := Empty) rfl (by omega) (gf := 82) (lb := #[.pointer (some ⟨Bm, 0, none⟩)]) rfl trivial (enters_of Tryz.func82 (by kernel_rfl) rfl)
    (stops_none Bm mb clock W0 (Nat.lt_of_lt_of_le hl hb0.size) ((hb0.cell (p := ⟨Bm, 0, none⟩) hl).trans hm) (mapAt_below hb hb0) (4 - 1)) (fun _ _ => trivial) (fun _ _ _ _ _ _ _ _ => trivial) (br W0) (fun x => x.elim)
    (fun _ W => W.cell? ⟨w.heap.size, 0, none⟩ = some (.slice none 0 0) ∧ Below w.heap.size w W) (fun _ _ _ => False)
    (OwnFrom.and (Own.from (fun s A B row hs hg hr => cell_kept hs hg hr) _) (ownFrom_below (Nat.le_refl _) hb0.size)) (fun _ _ _ _ _ hs _ _ => hs) ⟨hbox, hb0⟩ (fun x => x.elim) (fun l x => x.elim) (fun l pre x => x.elim) ?done ?stop
  case done =>
    rintro D ys W hD rfl ⟨hc, hB⟩ hK
    gi_wp2
    refine ⟨by simp, .inl ⟨_, _, rfl, run_takeDeferred hK, ?_⟩⟩
    exact ⟨_, results_tmp rfl _ _ _, rfl, hB.trans (belowK_b (w := w) (Nat.le_refl _) W D _ _ (Nat.le_trans hb0.size hD) hK rfl rfl)⟩
  case stop =>
    rintro D c pre W _ h _
    exact h.elim
set_option maxHeartbeats 4000000 in
theorem collect_none (Bm mb clock : Nat) (w : World) (hl : Bm < w.heap.size) (hm : w.cell? ⟨Bm, 0, none⟩ = some (.map (some mb))) (hb : w.heap[mb]? = some (.map #[] clock)) :
    Calls Tryz.prog 80 #[.func (.func 82) #[] #[.pointer (some ⟨Bm, 0, none⟩)]] w fun e w' => e = .returned (.slice none 0 0) ∧ Below w.heap.size w w' := by
  have HA := Lib.hid (appendSeq_none Bm mb clock w hl hm hb)
  clear hm hb
  go_enter Tryz.func80, Tryz.ntmps80
  go_wp2_with fail
  refine HA.out.mono ?_
  rintro e w' ⟨rfl, hE⟩
  have HE := Lib.hid hE
  clear hE HA
  go_wp2_with fail
  go_ret
  exact ⟨rfl, HE.out⟩
set_option maxHeartbeats 4000000 in
theorem sorted_none (c : Value) (Bm mb clock : Nat) (w : World) (hl : Bm < w.heap.size) (hm : w.cell? ⟨Bm, 0, none⟩ = some (.map (some mb))) (hb : w.heap[mb]? = some (.map #[] clock)) :
    Calls Tryz.prog 60 #[.func (.func 82) #[] #[.pointer (some ⟨Bm, 0, none⟩)], c] w fun e w' => e = .returned (.slice none 0 0) ∧ Below w.heap.size w w' := by
  have HA := Lib.hid (collect_none Bm mb clock w hl hm hb)
  have HS := Lib.hid (fun W => sort_none c W)
  clear hm hb
  go_enter Tryz.func60, Tryz.ntmps60
  go_wp2_with fail
  refine HA.out.mono ?_
  rintro e w' ⟨rfl, hE⟩
  have HE := Lib.hid hE
  clear hE HA
  go_wp2_with fail
  refine (HS.out _).mono ?_
  rintro e w2 ⟨rfl, rfl⟩
  go_wp2_with fail
  go_ret
  exact ⟨rfl, HE.out⟩
set_option maxHeartbeats 4000000 in
theorem values_any (v : Option Nat) (w : World) : Calls Tryz.prog 61 #[.map v] w fun e w' => e = .returned (.func (.func 82) #[] #[.pointer (some ⟨w.heap.size, 0, none⟩)]) ∧ w' = w.alloc (.cells #[.map v] 132) := by
  go_enter Tryz.func61, Tryz.ntmps61
  go_wp2_with fail
  go_ret
  exact ⟨rfl, rfl⟩
set_option maxRecDepth 100000 in
set_option maxHeartbeats 8000000 in
theorem views_none {w : World} {g o : Nat} {l : List Ev} {nm : Nat → List NameK} (hT : Tr w g o l nm) (ad : Option Addr) (had : 0 < l.length → ad = some ⟨g, o, none⟩) (cap : Nat) (hl : l.length ≤ 5000) (hno : ∀ x ∈ l, x.kind ≠ 7) :
    Calls Tryz.prog 28 #[.slice ad l.length cap] w fun e w' => e = .returned (.tuple #[.slice none 0 0, .bool true]) ∧ Below w.heap.size w w' := by
  obtain ⟨n, hn⟩ : ∃ n, n = l.length := ⟨_, rfl⟩
  obtain ⟨w1, hw1⟩ : ∃ w1, w1 = w.alloc (.map #[] 0) := ⟨_, rfl⟩
  obtain ⟨mb, hmb⟩ : ∃ mb, mb = w.heap.size := ⟨_, rfl⟩
  have hb1 : Below w.heap.size w w1 := by rw [hw1]; exact ba (br w) _
  have hm1 : w1.heap[mb]? = some (.map #[] 0) := by rw [hw1, hmb]; exact heap_alloc_new w _
  have H0 := Lib.hid (br w1)
  have HH := Lib.hid (And.intro hT (And.intro had (And.intro hno (And.intro hn (And.intro hb1 hm1)))))
  have hn9 : n ≤ 5000 := by rw [hn]; exact hl
  have hmm := @run_makeMap Tryz.prog
  rw [← hn]
  clear hT had hl hno hn hb1 hm1
  go_enter Tryz.func28, Tryz.ntmps28
  go_upto_region 2 with (fail)
  rw [← hw1, ← hmb]
  clear hw1 hmb hmm
  go_wp2_with fail
  go_loopw [5, 13] (fun b i wr => ∃ j : Nat, j ≤ n ∧ b = .bool true ∧ i = .int .i64 (j : Int) ∧ Hid (Below w1.heap.size w1 wr)) (fun _ i _ => n - (intOf i).toNat)
  case atStart => exact ⟨0, by omega, rfl, rfl, H0⟩
  case round =>
    obtain ⟨j, hj, rfl, rfl, HW⟩ := hrel
    by_cases hlt : j < n
    · have hd1 : decide ((j : Int) < (n : Int)) = true := by rw [decide_eq_true_eq]; omega
      have hd2 : decide (j < n) = true := by rw [decide_eq_true_eq]; omega
      have hd3 : (j : Int) < (n : Int) := by omega
      have hjl : j < l.length := by rw [← HH.out.2.2.2.1]; exact hlt
      obtain ⟨x, hx⟩ : ∃ x, l[j]? = some x := ⟨_, List.getElem?_eq_getElem hjl⟩
      have hTr := (HH.out.1.below HH.out.2.2.2.2.1).below HW.out
      have hr : wr.rangeAt g (o + j * 19) (evA x).toList := by
        have h := (hTr.ev j hjl).2.1
        rwa [show l[j] = x from by rw [List.getElem?_eq_getElem hjl] at hx; injection hx] at h
      have had := HH.out.2.1 (by omega)
      have hk7 := HH.out.2.2.1 x (List.mem_of_getElem? hx)
      obtain ⟨cx, hcx⟩ : ∃ cx, cx = evA x := ⟨_, rfl⟩
      rw [← hcx] at hr
      have y1 : cx.size = 19 := by rw [hcx]; rfl
      have p1 : cx.all (·.oneCell') = true := by rw [hcx]; simp [evA, Value.oneCell']
      have hc1 : cx.toList.toArray = cx := by simp
      obtain ⟨X, hX⟩ : ∃ X, X = wr.heap.size := ⟨_, rfl⟩
      have hz := heap_alloc_new wr (.cells zEv 36)
      have hbz := ba (br wr) (.cells zEv 36)
      rw [← hX] at hz
      obtain ⟨w2, hw2⟩ : ∃ w2, w2 = (wr.alloc (.cells zEv 36)).setRow X cx := ⟨_, rfl⟩
      have hb2 : Below wr.heap.size wr w2 := by rw [hw2]; exact (kept_setRow' (wr.alloc (.cells zEv 36)) X cx).out hbz hbz.size (fun k hk' e => by omega)
      have hx2 : w2.heap[X]? = some (.cells cx 36 (0, 0)) := by rw [hw2]; exact setRow_heap _ _ _ _ _ _ hz
      have HZ := Lib.hid (And.intro hz hX)
      have HG := Lib.hid (And.intro hr (And.intro y1 (And.intro p1 (And.intro hcx hlt))))
      have H2 := Lib.hid (bt HW.out hb2)
      rw [hcx] at hx2
      have e0 : w2.cell? ⟨X, 0, none⟩ = some (.int .i64 x.kind) := cell_of_row _ _ 0 _ _ _ hx2
      have dk : (x.kind != 7) = true := by simpa using hk7
      rw [had]
      clear hr hz hbz hX hx2 y1 p1 hcx hx hlt hjl hTr hb2 HW H0 had hk7
      unfold zEv at hw2 HZ
      go_upto_region 6 with (first
        | (with_reducible refine wpList_load_mid rfl 36 (.tmp 15) rfl g (o + j * 19) rfl cx.toList _ HG.out.1 Tryz.underlying36 rfl (by rw [Array.length_toList, HG.out.2.1]; kernel_rfl) ?_)
        | (refine wpList_store_row rfl 36 (.tmp 7) (.tmp 16) rfl X cx (by rw [HZ.out.2]; rfl) (by rw [← hc1]; rfl) 36 _ HZ.out.1 (by rw [HG.out.2.1]; kernel_rfl) (by rw [HG.out.2.1]; rfl) HG.out.2.2.1 ?_)
        | fail)
      rw [← hw2, ← HZ.out.2]
      clear hw2 hc1 HZ
      go_wp2_with fail
      exact ⟨⟨j + 1, HG.out.2.2.2.2, rfl, by go_num, H2⟩, by have := HG.out.2.2.2.2; simp [intOf]; omega⟩
    · have hd1 : decide ((j : Int) < (n : Int)) = false := by rw [decide_eq_false_iff_not]; omega
      have hd2 : decide (j < n) = false := by rw [decide_eq_false_iff_not]; omega
      have HV := Lib.hid (fun W => values_any (some mb) W)
      have HE := Lib.hid (show ∀ c : Value, Calls Tryz.prog 60 #[.func (.func 82) #[] #[.pointer (some ⟨wr.heap.size, 0, none⟩)], c] (wr.alloc (.cells #[.map (some mb)] 132)) fun e w' => e = .returned (.slice none 0 0) ∧ Below w.heap.size w w' from fun c =>
        (sorted_none c wr.heap.size mb 0 (wr.alloc (.cells #[.map (some mb)] 132)) (by simp) (cell_of_row _ _ 0 _ _ _ (heap_alloc_new wr _)) (mapAt_below (mapAt_below HH.out.2.2.2.2.2 HW.out) (ba (br wr) _))).mono fun e w' ⟨h1, h2⟩ => ⟨h1, bt HH.out.2.2.2.2.1 (bt HW.out (bt (ba (br wr) _) h2))⟩)
      clear HW H0 hlt
      go_wp2_with fail
      refine (HV.out _).mono ?_
      rintro e w3 ⟨rfl, rfl⟩
      go_wp2_with fail
      refine (HE.out _).mono ?_
      rintro e w4 ⟨rfl, hB⟩
      have HB := Lib.hid hB
      clear hB HE HV
      go_wp2_with fail
      go_ret2
      exact ⟨rfl, HB.out⟩
end Go.Proofs.YtogagkgkmoppmaaGreatDoor
namespace Go.Proofs.YtogagkgkmoppmaaGreatDoor
set_option linter.unusedVariables false
set_option linter.unusedSimpArgs false
open Go.RowKit
theorem wpListIn_store_rowK {F : Fence} {n : Nat} {P : Program} {ops : Array Oper} {rest : List Oper} {o : Oper} {a : Act} {w : World} {Q : Exit → Act → World → Prop} (hgd : o.guard = none) (ty : TypeId) (x y : Operand) (ho : o.op = .store ty x y)
    (g : Nat) (cells : Array Value) (hx : a.eval x = .pointer (some ⟨g, 0, none⟩)) (hy : a.eval y = .agg cells)
    (t : TypeId) (old : Array Value) (hg : w.heap[g]? = some (.cells old t (0, 0))) (hi : (P.info? ty).map (·.size) = some cells.size)
    (hold : old.size = cells.size) (h1 : cells.all (·.oneCell') = true)
    (h : wpListIn F n P ops Q rest (a.put o.dst undef) (w.setRow g cells)) : wpListIn F n P ops Q (o :: rest) a w := by
  refine wpListIn_plain hgd fun K hK => ?_
  unfold Oper.wpIn
  refine ⟨by simp [Oper.about, ho], ?_⟩
  rw [Oper.semAt_plain F _ _ (by rw [ho]; intro c hc'; cases hc')]
  unfold execOp
  simp only [ho, hx, hy, Instr.storeAt, Instr.sureAddr, Sem.run_bind, Sem.run_pure, Result.andThen_ok, run_storeVar_row w g t ty old cells hg hi hold h1]
  exact hK _ _ h
theorem wpListIn_load_midK {F : Fence} {n : Nat} {P : Program} {ops : Array Oper} {rest : List Oper} {op : Oper} {a : Act} {w : World} {Q : Exit → Act → World → Prop} (hgd : op.guard = none) (ty : TypeId) (x : Operand) (ho : op.op = .load ty x)
    (b o : Nat) (hx : a.eval x = .pointer (some ⟨b, o, none⟩)) (cs : List Value) (d : TypeDesc) (hc : w.rangeAt b o cs)
    (hu : P.underlying ty = some d) (hd : d.isRow = true) (hi : (P.info? ty).map (·.size) = some cs.length)
    (h : wpListIn F n P ops Q rest (a.put op.dst (.agg cs.toArray)) w) : wpListIn F n P ops Q (op :: rest) a w := by
  refine wpListIn_plain hgd fun K hK => ?_
  unfold Oper.wpIn
  refine ⟨by simp [Oper.about, ho], ?_⟩
  rw [Oper.semAt_plain F _ _ (by rw [ho]; intro c hc'; cases hc')]
  unfold execOp
  simp only [ho, hx, Instr.loadAt, Instr.sureAddr, Sem.run_bind, Sem.run_pure, Result.andThen_ok, run_loadVar_mid w b o ty cs d hc hu hd hi]
  exact hK _ _ h
end Go.Proofs.YtogagkgkmoppmaaGreatDoor
namespace Go.Proofs.YtogagkgkmoppmaaGreatDoor
set_option linter.unusedVariables false
set_option linter.unusedSimpArgs false
open Go.RowKit GM Go.Shelf
attribute [local go_sem] Oper.semAt_some
open Go.ChangeMaps (setBlock)
open Go.MapKept
abbrev uV (i : Int) : Value := .int .u64 i
theorem uLaw : KLaw Tryz.prog 25 uV := KLaw.int Tryz.underlying25
abbrev evV (x : Ev) : Value := .agg (evA x)
/-- which entries have come -/
structure Coll (L : List (Int × Ev)) (es : Array MapEntry) (seen : Array Nat) (ss : List Int) : Prop where
  nd : ss.Nodup
  sub : ∀ k ∈ ss, k ∈ L.map (·.1)
  left : ∀ e ∈ es.toList, ∀ k : Int, e.key = uV k → seen.contains e.born = decide (k ∈ ss)
theorem Coll.begin (L : List (Int × Ev)) (es : Array MapEntry) : Coll L es #[] [] := ⟨List.nodup_nil, fun k hk => (by cases hk), fun e he k hk => (by simp)⟩
theorem uv_inj {a b : Int} (h : uV a = uV b) : a = b := uLaw.inj a b h
theorem entryE {L : List (Int × Ev)} {es : Array MapEntry} (hL : es.toList.map (fun e => (e.key, e.val)) = (vals evV L).map (fun x => (uV x.1, x.2))) {e : MapEntry} (he : e ∈ es.toList) : ∃ p ∈ L, e.key = uV p.1 ∧ e.val = evV p.2 := by
  have : (e.key, e.val) ∈ (vals evV L).map (fun x => (uV x.1, x.2)) := by rw [← hL]; exact List.mem_map.2 ⟨e, he, rfl⟩
  obtain ⟨y, hy, hyx⟩ := List.mem_map.1 this
  unfold vals at hy
  obtain ⟨p, hp, rfl⟩ := List.mem_map.1 hy
  injection hyx with h1 h2
  exact ⟨p, hp, h1.symm, h2.symm⟩
theorem Coll.step {L : List (Int × Ev)} {es : Array MapEntry} {clock : Nat} {seen : Array Nat} {ss : List Int} (h : Coll L es seen ss) (hst : Stamped es clock) {e : MapEntry} (he : e ∈ es.toList) (hs : seen.contains e.born = false)
    {p : Int × Ev} (hp : p ∈ L) (hk : e.key = uV p.1) : Coll L es (seen.push e.born) (ss ++ [p.1]) := by
  have hnot : p.1 ∉ ss := by
    have := h.left e he p.1 hk
    rw [hs] at this
    simpa using this.symm
  refine ⟨?_, fun k hk' => ?_, fun e' he' k hk' => ?_⟩
  · rw [List.nodup_append]
    exact ⟨h.nd, by simp, fun a ha b hb => by
      obtain rfl := List.mem_singleton.1 hb
      exact fun e => hnot (e ▸ ha)⟩
  · rcases List.mem_append.1 hk' with hk' | hk'
    · exact h.sub k hk'
    · rw [List.mem_singleton.1 hk']
      exact List.mem_map_of_mem hp
  · rw [contains_push, h.left e' he' k hk']
    by_cases hkp : k = p.1
    · have hee : e' = e := by
        have h1 : e'.key = e.key := by rw [hk', hkp, hk]
        obtain ⟨i, hi, rfl⟩ := List.mem_iff_getElem.1 he'
        obtain ⟨j, hj, rfl⟩ := List.mem_iff_getElem.1 he
        have h2 := hst.2.2
        have := (List.getElem_inj (i := i) (j := j) (h₀ := by simpa using hi) (h₁ := by simpa using hj) h2).1 (by simpa using h1)
        subst this
        rfl
      rw [hee]
      simp [hkp]
    · have hne : (e'.born == e.born) = false := by
        rw [beq_eq_false_iff_ne]
        intro hb
        have := born_inj hst.2.1 he' he hb
        rw [this, hk] at hk'
        exact hkp (uv_inj hk'.symm)
      rw [hne, Bool.or_false]
      simp [hkp]
theorem Coll.all {L : List (Int × Ev)} {es : Array MapEntry} {seen : Array Nat} {ss : List Int} (h : Coll L es seen ss) (hn : (L.map (·.1)).Nodup) (hL : es.toList.map (fun e => (e.key, e.val)) = (vals evV L).map (fun x => (uV x.1, x.2))) (h0 : (leftOf es seen).size = 0) : ss.Perm (L.map (·.1)) := by
  refine (List.perm_ext_iff_of_nodup h.nd hn).2 fun k => ⟨h.sub k, fun hk => ?_⟩
  obtain ⟨p, hp, rfl⟩ := List.mem_map.1 hk
  have : (uV p.1, evV p.2) ∈ es.toList.map (fun e => (e.key, e.val)) := by
    rw [hL]
    exact List.mem_map.2 ⟨(p.1, evV p.2), List.mem_map.2 ⟨p, hp, rfl⟩, rfl⟩
  obtain ⟨e, he, hee⟩ := List.mem_map.1 this
  injection hee with h1 h2
  have h4 := h.left e he p.1 h1
  rw [all_seen es seen h0 e he] at h4
  simpa using h4.symm
theorem nodup_le : ∀ (s M : List Int), s.Nodup → (∀ x ∈ s, x ∈ M) → s.length ≤ M.length
  | [], _, _, _ => by simp
  | a :: s, M, hn, hs => by
    have ha := hs a List.mem_cons_self
    have h := nodup_le s (M.erase a) (List.nodup_cons.1 hn).2 (fun x hx => (List.mem_erase_of_ne (fun e => (List.nodup_cons.1 hn).1 (by first | (rw [← e]; exact hx) | (rw [e]; exact hx)))).2 (hs x (List.mem_cons_of_mem _ hx)))
    rw [List.length_erase_of_mem ha] at h
    have := List.length_pos_of_mem ha
    simp only [List.length_cons]
    omega
theorem Coll.len {L : List (Int × Ev)} {es : Array MapEntry} {seen : Array Nat} {ss : List Int} (h : Coll L es seen ss) : ss.length ≤ L.length := by
  have := nodup_le ss (L.map (·.1)) h.nd h.sub
  simpa using this
/-- what lies behind a number -/
def evOf (L : List (Int × Ev)) (k : Int) : Ev := (get L k).getD ⟨0, 0, 0, 0, 0, 0, 0, zeroM, 0, 0, 0, 0, none, 0, 0, ⟨#[]⟩⟩
theorem evOf_mem {L : List (Int × Ev)} (hn : (L.map (·.1)).Nodup) {p : Int × Ev} (hp : p ∈ L) : evOf L p.1 = p.2 := by
  have : get L p.1 = some p.2 := by
    obtain ⟨i, hi, rfl⟩ := List.mem_iff_getElem.1 hp
    unfold GM.get
    rw [GM.find_some hn (j := i) (i := (L[i]).1) (v := (L[i]).2) (by simp [hi])]
    rfl
  unfold evOf
  rw [this]
  rfl
theorem setBlock_atE {w : World} {r : Nat} {o o' : Obj} (h : w.heap[r]? = some o) : (setBlock w r o').heap[r]? = some o' := by
  have hlt := (Array.getElem?_eq_some_iff.1 h).1
  simp [setBlock, hlt]
theorem setBlock_grown (w : World) (r : Nat) (o : Obj) : w.grownBy (setBlock w r o) (some r) := by
  refine ⟨rfl, rfl, rfl, by simp [setBlock], fun k hk hr => ?_⟩
  have : r ≠ k := fun e => hr (by rw [e])
  simp [setBlock, this]
set_option maxRecDepth 100000 in
set_option maxHeartbeats 4000000 in
theorem values1_stops (Bm mb : Nat) (L : List (Int × Ev)) (w : World) (hl : Bm < w.heap.size) (hm : w.cell? ⟨Bm, 0, none⟩ = some (.map (some mb))) (hg : GMap uV w mb (vals evV L)) (n : Nat) (hn : 1 ≤ n) :
    SeqStopsK (α := Int) Fence.wide n Tryz.prog 82 #[.pointer (some ⟨Bm, 0, none⟩)] (fun k => #[evV (evOf L k)]) KeepsWalks (fun xs => xs.Perm (L.map (·.1))) (fun _ => True) (L.length) w := by
  intro l J Jx W hW hJ hJx hY h0
  have hmW : W.cell? ⟨Bm, 0, none⟩ = some (.map (some mb)) := (hW.cell (p := ⟨Bm, 0, none⟩) hl).trans hm
  obtain ⟨hnd, es, clock, hb, hst, hL⟩ := hg.below hW hg.lt
  have hnd' : (L.map (·.1)).Nodup := by
    have e : (vals evV L).map (·.1) = L.map (·.1) := by unfold vals; rw [List.map_map]; rfl
    rw [← e]
    exact hnd
  have hrg := run_range_map (P := Tryz.prog) W 132 25 36 mb es clock Tryz.underlying132 hb
  refine callsIn_of_wp Tryz.func82 rfl trivial ?_ rfl
  simp only [Tryz.ntmps82, List.size_toArray, List.length_cons, List.length_nil, Nat.reduceAdd, Nat.reduceSub, Array.replicate_succ, Array.replicate_zero, List.push_toArray, List.append_toArray, List.nil_append, List.cons_append]
  obtain ⟨wd, hwd⟩ : ∃ wd, wd = W.alloc (.mapIter (some mb) clock #[] clock) := ⟨_, rfl⟩
  obtain ⟨r, hr⟩ : ∃ r, r = W.heap.size := ⟨_, rfl⟩
  have hit : wd.heap[r]? = some (.mapIter (some mb) clock #[] clock) := by rw [hwd, hr]; exact heap_alloc_new W _
  have hmb : wd.heap[mb]? = some (.map es clock) := by rw [hwd]; exact (heap_alloc_old W _ (Array.getElem?_eq_some_iff.1 hb).1).trans hb
  have HS := Lib.hid (show ∃ c0, clock ≤ c0 ∧ wd.heap[r]? = some (.mapIter (some mb) clock #[] c0) ∧ wd.heap[mb]? = some (.map es clock) ∧ Coll L es #[] [] ∧ J [] wd from ⟨clock, Nat.le_refl _, hit, hmb, Coll.begin L es, by rw [hwd]; exact hJ [] W _ none h0 (World.grownBy_alloc W _ none) (fun r e => by cases e)⟩)
  have HSE := Lib.hid (show wd.iterSeen r = #[] from by unfold World.iterSeen; rw [hit])
  have HH := Lib.hid (And.intro hst (And.intro hL (And.intro hnd' (And.intro hJ (And.intro hY hr)))))
  rw [← hwd, ← hr] at hrg
  clear hit hmb hb hst hL hnd hnd' hg hJ hY hJx h0 hm hl hW hwd hr
  gi_wp2
  clear hmW hrg
  gi_loopw [4] (fun _ wr => ∃ seen ss, wr.iterSeen r = seen ∧ Hid (∃ c0, clock ≤ c0 ∧ wr.heap[r]? = some (.mapIter (some mb) clock seen c0) ∧ wr.heap[mb]? = some (.map es clock) ∧ Coll L es seen ss ∧ J ss wr)) (fun _ wr => (leftOf es (wr.iterSeen r)).size)
  case atStart => exact ⟨#[], [], HSE.out, HS⟩
  case round =>
    obtain ⟨seen, ss, hseen, HW⟩ := hrel
    obtain ⟨c0, hcl, hit, hmb, hC, hJs⟩ := HW.out
    rcases run_next_at (P := Tryz.prog) wr 0 r mb clock c0 seen es clock hit hmb HH.out.1.1 hcl with ⟨h0, hnx⟩ | ⟨en, hen, wn, hwn, hnx⟩
    · have HE := Lib.hid (And.intro (hC.all HH.out.2.2.1 HH.out.2.1 h0) hJs)
      clear hit hmb hcl h0 hseen hC hJs HW HS HSE
      gi_wp2
      go_end0
      exact ⟨⟨_, rfl⟩, .inl ⟨ss, HE.out.1, HE.out.2⟩⟩
    · obtain ⟨wq, hwq⟩ : ∃ wq, wq = setBlock wn r (.mapIter (some mb) clock (seen.push en.born) clock) := ⟨_, rfl⟩
      have HEN := Lib.hid hen
      obtain ⟨hes, hsn⟩ := mem_left hen
      obtain ⟨p, hp, hkey, hval⟩ := entryE HH.out.2.1 hes
      have hsr : mb ≠ r := fun e => by rw [e, hit] at hmb; cases hmb
      have hq : wq.heap[r]? = some (.mapIter (some mb) clock (seen.push en.born) clock) ∧ wq.heap[mb]? = some (.map es clock) ∧ wr.grownBy wq (some r) := by
        rw [hwq]
        rcases hwn with e | e
        · rw [e]
          have hg := setBlock_grown wr r (.mapIter (some mb) clock (seen.push en.born) clock)
          exact ⟨setBlock_atE hit, (hg.block mb (Array.getElem?_eq_some_iff.1 hmb).1 (fun e => hsr (by injection e))).trans hmb, hg⟩
        · rw [e]
          have hg := setBlock_grown wr.drew r (.mapIter (some mb) clock (seen.push en.born) clock)
          exact ⟨setBlock_atE (show wr.drew.heap[r]? = _ from hit), (hg.block mb (Array.getElem?_eq_some_iff.1 hmb).1 (fun e => hsr (by injection e))).trans hmb, ⟨hg.os, hg.tape, hg.output, hg.size, hg.block⟩⟩
      obtain ⟨hrq, hmq, hgq⟩ := hq
      have hJq : J ss wq := HH.out.2.2.2.1 ss wr wq (some r) hJs hgq (fun r' e => by
        injection e with e
        subst e
        exact ⟨by rw [HH.out.2.2.2.2.2]; exact Nat.le_refl _, _, hit, rfl⟩)
      have hent := run_entry_at (P := Tryz.prog) wq r mb clock seen es clock en hrq hmq hes HH.out.1.2.1
      rw [hkey, hval] at hent hnx
      rw [← hwq] at hnx
      obtain ⟨x, hx⟩ : ∃ x, x = p.2 := ⟨_, rfl⟩
      obtain ⟨cx, hcx⟩ : ∃ cx, cx = evA x := ⟨_, rfl⟩
      rw [← hx] at hent hnx
      unfold evV at hent hnx
      rw [← hcx] at hent hnx
      have y1 : cx.size = 19 := by rw [hcx]; rfl
      have p1 : cx.all (·.oneCell') = true := by rw [hcx]; simp [evA, Value.oneCell']
      have hc1 : cx.toList.toArray = cx := by simp
      have hz := heap_alloc_new wq (.cells zEv 36)
      have hbz := ba (br wq) (.cells zEv 36)
      obtain ⟨w2, hw2⟩ : ∃ w2, w2 = (wq.alloc (.cells zEv 36)).setRow wq.heap.size cx := ⟨_, rfl⟩
      have hb2 : Below wq.heap.size wq w2 := by rw [hw2]; exact (kept_setRow' (wq.alloc (.cells zEv 36)) wq.heap.size cx).out hbz hbz.size (fun k hk' e => by omega)
      have hx2 : w2.heap[wq.heap.size]? = some (.cells cx 36 (0, 0)) := by rw [hw2]; exact setRow_heap _ _ _ _ _ _ hz
      have hrow : w2.rangeAt wq.heap.size 0 cx.toList := range_of hx2 _ (fun j u hu => by simpa using hu)
      have hJ2 : J ss w2 := HH.out.2.2.2.1 ss wq w2 none hJq ⟨hb2.os, hb2.tape, hb2.output, hb2.size, fun k hk _ => hb2.block k hk⟩ (fun r e => by cases e)
      have hC2 := hC.step HH.out.1 hes hsn hp hkey
      have hlen : ss.length < L.length := by
        have := hC2.len
        simp only [List.length_append, List.length_cons, List.length_nil] at this
        omega
      have hYx := HH.out.2.2.2.2.1 ss p.1 w2 hJ2 hlen
      rw [show (#[evV (evOf L p.1)] : Array Value) = #[.agg cx] from by rw [evOf_mem HH.out.2.2.1 hp, ← hx, hcx]] at hYx
      obtain ⟨fn, tmps, assign, body, hy, hR⟩ := hYx
      have HR := Lib.hid hR
      have HQ := Lib.hid (And.intro hrow (And.intro y1 (And.intro p1 hz)))
      have H2 := Lib.hid (show w2.heap[r]? = some (.mapIter (some mb) clock (seen.push en.born) clock) ∧ w2.heap[mb]? = some (.map es clock) ∧ Coll L es (seen.push en.born) (ss ++ [p.1]) from ⟨(hb2.block r (Array.getElem?_eq_some_iff.1 hrq).1).trans hrq, (hb2.block mb (Array.getElem?_eq_some_iff.1 hmq).1).trans hmq, hC2⟩)
      have HSN := Lib.hid (And.intro hes (And.intro hsn hseen))
      clear hes hsn hp hkey hval hsr hrq hmq hgq hJq y1 p1 hz hbz hb2 hx2 hrow hJ2 hC2 hlen hR hwq hwn hen hit hmb hcl hC hJs HW HS HSE hseen hcx hx
      subst hw2
      unfold zEv at HQ H2 HR hy
      gi_wp2_with (first
        | (with_reducible refine wpListIn_load_midK rfl 36 (.tmp 4) rfl wq.heap.size 0 rfl cx.toList _ HQ.out.1 Tryz.underlying36 rfl (by rw [Array.length_toList, HQ.out.2.1]; kernel_rfl) ?_)
        | (refine wpListIn_store_rowK rfl 36 (.tmp 4) (.tmp 10) rfl wq.heap.size cx rfl rfl 36 _ HQ.out.2.2.2 (by rw [HQ.out.2.1]; kernel_rfl) (by rw [HQ.out.2.1]; rfl) HQ.out.2.2.1 ?_)
        | gi_in)
      clear hy hnx hent hc1
      refine HR.out.mono ?_
      rintro e W3 (⟨rfl, hJ3, hk3⟩ | ⟨rfl, hJx⟩)
      · have hr3 := hk3.same r _ H2.out.1 rfl
        have hm3 := hk3.same mb _ H2.out.2.1 rfl
        have hi3 : W3.iterSeen r = seen.push en.born := by unfold World.iterSeen; rw [hr3]
        have HE := Lib.hid (show (∃ sn sz, W3.iterSeen r = sn ∧ Hid (∃ c0, clock ≤ c0 ∧ W3.heap[r]? = some (.mapIter (some mb) clock sn c0) ∧ W3.heap[mb]? = some (.map es clock) ∧ Coll L es sn sz ∧ J sz W3)) ∧ (leftOf es (W3.iterSeen r)).size < (leftOf es (wr.iterSeen r)).size from
          ⟨⟨_, ss ++ [p.1], hi3, ⟨clock, Nat.le_refl _, hr3, hm3, H2.out.2.2, hJ3⟩⟩, by rw [hi3, HSN.out.2.2]; exact left_shrinks es seen en HEN.out⟩)
        clear hr3 hm3 hi3 hJ3 hk3 HR H2 HQ
        gi_wp2
        exact HE.out
      · have HE := Lib.hid hJx
        clear hJx HR H2 HQ
        gi_wp2
        refine bodyPost_ret (results_none rfl _ _ _) rfl ?_
        exact ⟨⟨_, rfl⟩, .inr ⟨_, trivial, HE.out⟩⟩
end Go.Proofs.YtogagkgkmoppmaaGreatDoor
namespace Go.Proofs.YtogagkgkmoppmaaGreatDoor
set_option linter.unusedVariables false
set_option linter.unusedSimpArgs false
open Go.RowKit GM
/-- what has become of a judge while no stay comes or goes -/
def JMid (wB : World) (g o : Nat) (l : List Ev) (R : List Pc) (n : Nat) (M : JM) (t : J) (w' : World) : Prop :=
  ∃ M', At wB (jparts g o l M' ++ R) w' ∧ JOk g o l n M' ∧ projJ M' = t ∧ M'.h = M.h ∧ M'.stays.map (·.b) = M.stays.map (·.b) ∧ M'.sa = M.sa ∧ M'.sc = M.sc
theorem JMid.below {wB w w' : World} {g o n : Nat} {l : List Ev} {R : List Pc} {M : JM} {t : J} (h : JMid wB g o l R n M t w) (hb : Below w.heap.size w w') : JMid wB g o l R n M t w' := by
  obtain ⟨M', h1, h2⟩ := h
  exact ⟨M', h1.below hb, h2⟩
theorem JMid.bel {wB w : World} {g o n : Nat} {l : List Ev} {R : List Pc} {M : JM} {t : J} (h : JMid wB g o l R n M t w) : Below wB.heap.size wB w := by
  obtain ⟨M', h1, h2⟩ := h
  exact h1.bel
theorem JMid.brk {wB w : World} {g o n : Nat} {l : List Ev} {R : List Pc} {M : JM} {t : J} (h : JMid wB g o l R n M t w) (r : Int) :
    ∀ w1, Below w.heap.size w w1 → ∀ b : Bool, Calls Tryz.prog 22 #[.pointer (some ⟨M.h.T, 0, none⟩), .int .i64 r, .bool b] w1 fun e w' => e = .returned (.tuple #[]) ∧ JMid wB g o l R n M (t.br r b) w' := fun w1 hb b => by
  obtain ⟨M', h1, h2, h3, h4, h5, h6, h7⟩ := h
  rw [← h4]
  refine (jbreaks_any (h1.below hb) r b).mono ?_
  rintro e w' ⟨he, ha⟩
  obtain ⟨e1, e2, _, _, e5, e6⟩ := br_fix M' r b
  exact ⟨he, _, ha, h2.br r b, by rw [projJ_br, h3], e1.trans h4, by rw [e2]; exact h5, e5.trans h6, e6.trans h7⟩
theorem JMid.len {wB w : World} {g o n : Nat} {l : List Ev} {R : List Pc} {M : JM} {t : J} (h : JMid wB g o l R n M t w) : t.stays.length = M.stays.length := by
  obtain ⟨M', h1, h2, h3, h4, h5, _⟩ := h
  have := congrArg List.length h5
  rw [← h3]
  simpa [projJ] using this
/-- a stay as it stands -/
theorem JMid.stay {wB w : World} {g o n : Nat} {l : List Ev} {R : List Pc} {M : JM} {t : J} (h : JMid wB g o l R n M t w) {k : Nat} (hk : k < M.stays.length) :
    ∃ s, t.stays[k]? = some s ∧ ∃ x : JX, x.s = s ∧ x.b = M.stays[k].b ∧ JXOk l [] n { x with s := { x.s with bf := none }, pb := none } ∧ (w.heap[M.stays[k].b]? = some (.cells (jsC g o x) 56 (0, 0))) ∧
      (∃ b, M.sa = some ⟨b, 0, none⟩ ∧ b < w.heap.size ∧ w.cell? ⟨b, k, none⟩ = some (.pointer (some ⟨M.stays[k].b, 0, none⟩))) := by
  obtain ⟨M', h1, h2, h3, h4, h5, h6, h7⟩ := h
  have hl := congrArg List.length h5
  have hk' : k < M'.stays.length := by simp at hl; omega
  have hb : M'.stays[k].b = M.stays[k].b := by
    have e1 := congrArg (fun L => L[k]?) h5
    simp [hk, hk'] at e1
    exact e1
  have hx := h2.st _ (List.getElem_mem hk')
  obtain ⟨b, e1, e2, e3⟩ := jown_nth h1.own hk'
  refine ⟨M'.stays[k].s, by rw [← h3]; simp [projJ, hk'], M'.stays[k], rfl, hb, ⟨rfl, hx.tr, hx.nx, hx.vw, hx.rd, hx.gots, hx.ups, hx.gl, hx.ul⟩, by rw [← hb]; exact jown_st h1.own (List.getElem_mem hk'), b, by rw [← h6]; exact e1, e2, by rw [e3, hb]; rfl⟩
def newX (S : Nat) (x : Ev) (b : Option Nat) (pb : Option Nat) : JX := ⟨S, newJ x b, none, 0, none, 0, pb⟩
/-- a new stay -/
theorem new_stayJ {wB w : World} {g o : Nat} {l : List Ev} {L : List Pc} (h : At wB L w) (x : Ev) (b pb : Option Nat) : At wB (sP g o l (newX w.heap.size x b pb) ++ L) (w.alloc (.cells (jsC g o (newX w.heap.size x b pb)) 56)) := by
  have h1 := h.new (sUps l (newX w.heap.size x b pb)) (br w) ⟨rfl, .inl ⟨rfl, rfl⟩⟩ (fun b e => by cases e)
  have h2 := h1.new (sGots l (newX w.heap.size x b pb)) (br w) ⟨rfl, .inl ⟨rfl, rfl⟩⟩ (fun b e => by cases e)
  exact h2.new (sCells g o (newX w.heap.size x b pb)) (ba (br w) _) (heap_alloc_new w _) (fun b e => by injection e with e; exact Nat.le_of_eq e)
theorem live_lookJ {wB w : World} {g o : Nat} {l : List Ev} {M : JM} {R : List Pc} (h : Own w wB.heap.size (jparts g o l M ++ R)) (i : Int) : (Instr.lookup 46 (.map (some M.h.lb)) (.int .i64 i) false).run Tryz.prog w = .ok (.bool ((get M.live i).getD false)) w := by
  have := (jown_live h).lookup (P := Tryz.prog) Tryz.underlying46 intLaw (z := .bool false) (by kernel_rfl) i
  rw [get_vals] at this
  rw [this]
  cases get M.live i <;> rfl
theorem now_lookJ {wB w : World} {g o : Nat} {l : List Ev} {M : JM} {R : List Pc} (h : Own w wB.heap.size (jparts g o l M ++ R)) (i : Int) : (Instr.lookup 67 (.map (some M.h.nb)) (.int .i64 i) false).run Tryz.prog w = .ok (sV M (get M.now i)) w := by
  have := (jown_now h).lookup (P := Tryz.prog) Tryz.underlying67 intLaw (z := .pointer none) (by kernel_rfl) i
  rw [get_vals] at this
  rw [this]
  cases get M.now i <;> rfl
theorem now_ltJ {g o n : Nat} {l : List Ev} {M : JM} (h : JOk g o l n M) {i : Int} {k : Nat} (hk : get M.now i = some k) : k < M.stays.length := by
  unfold GM.get at hk
  cases hf : M.now.find? (fun x => decide (x.1 = i)) with
  | none => rw [hf] at hk; cases hk
  | some p =>
    rw [hf] at hk
    injection hk with hk
    rw [← hk]
    exact h.now p (List.mem_of_find?_eq_some hf)
def pbOf (M : JM) (b : Option Nat) : Option Nat := b.map fun k => (M.stays.map (·.b)).getD k 0
theorem sV_pb (M : JM) (b : Option Nat) : sV M b = .pointer ((pbOf M b).map fun b => ⟨b, 0, none⟩) := by cases b <;> rfl
theorem dups_snoc (x : Ev) (L : List JS) (s : JS) (t : J) : J.dups x (L ++ [s]) t = (J.dups x L t).br 1 (dupJ x s) := by simp [J.dups]
theorem dups_stays (x : Ev) : ∀ (L : List JS) (t : J), (J.dups x L t).stays = t.stays ∧ (J.dups x L t).now = t.now ∧ (J.dups x L t).live = t.live
  | [], t => ⟨rfl, rfl, rfl⟩
  | s :: L, t => by
    have h := dups_stays x L (t.br 1 (dupJ x s))
    obtain ⟨a1, a2, a3, _⟩ := t.br_stays 1 (dupJ x s)
    exact ⟨h.1.trans a1, h.2.1.trans a3, h.2.2.trans a2⟩
def nxX (x : JX) (i : Nat) : JX := { x with s := { x.s with nx := some i } }
/-- a stay went on -/
theorem JMid.nx {wB w : World} {g o n : Nat} {l : List Ev} {R : List Pc} {M : JM} {t : J} (h : JMid wB g o l R n M t w) {k : Nat} (hk : k < M.stays.length) {i : Nat} (hi : i < l.length) :
    ∃ s v, t.stays[k]? = some s ∧ w.cell? ⟨M.stays[k].b, 6, none⟩ = some v ∧ w.frozen? ⟨M.stays[k].b, 6, none⟩ = false ∧ JMid wB g o l R n M (t.setS k { s with nx := some i }) (w.setCell ⟨M.stays[k].b, 6, none⟩ (.pointer (some ⟨g, o + i * 19, none⟩))) := by
  obtain ⟨M', h1, h2, h3, h4, h5, h6, h7⟩ := h
  have hl := congrArg List.length h5
  have hk' : k < M'.stays.length := by simp at hl; omega
  have hb : M'.stays[k].b = M.stays[k].b := by
    have e1 := congrArg (fun L => L[k]?) h5
    simp [hk, hk'] at e1
    exact e1
  have hm := List.getElem_mem hk'
  have hst := jown_st h1.own hm
  have hx := h2.st _ hm
  refine ⟨M'.stays[k].s, _, by rw [← h3]; simp [projJ, hk'], by rw [← hb]; exact (cell_of_row _ _ 6 _ _ _ hst).trans rfl, by rw [← hb]; exact frozen_of_row _ _ _ _ _ hst, M'.setS k (nxX M'.stays[k] i), ?_, ?_, ?_, h4, ?_, h6, h7⟩
  · rw [← hb]
    exact jown_cell h1 hk' (x := nxX M'.stays[k] i) rfl rfl rfl (keptS w ⟨M'.stays[k].b, 6, none⟩ _) ((setCell_block hst 6 _).trans rfl)
  · exact h2.setS hk' rfl ⟨hx.bf, hx.tr, fun e he => by injection he with he; rw [← he]; exact hi, hx.vw, hx.rd, hx.gots, hx.ups, hx.gl, hx.ul⟩
  · rw [projJ_setS, h3]
    rfl
  · rw [← h5]
    show (M'.stays.set k (nxX M'.stays[k] i)).map (·.b) = _
    rw [List.map_set]
    apply List.ext_getElem
    · simp
    · intro j h1 h2
      rw [List.getElem_set]
      split
      · subst_vars; simp [nxX]
      · rfl
/-- a stay comes -/
def finJ (M : JM) (y : JX) (p : Int) (sa : Option Addr) (sc : Nat) : JM := { M with now := put M.now p M.stays.length, stays := M.stays ++ [y], sa := sa, sc := sc }
theorem nthJ_snoc (L : List JX) (y : JX) (A : List (Int × Nat)) (h : ∀ p ∈ A, p.2 < L.length) : vals (nthJ L) A = vals (nthJ (L ++ [y])) A := by
  unfold vals
  refine List.map_congr_left fun p hp => ?_
  have := h p hp
  unfold nthJ
  congr 2
  rw [List.map_append, List.getD_eq_getElem?_getD, List.getD_eq_getElem?_getD, List.getElem?_append_left (by simpa using this)]
theorem put_memJ {β : Type} {L : List (Int × β)} {i : Int} {v : β} {p : Int × β} (h : p ∈ put L i v) : p ∈ L ∨ p = (i, v) := by
  unfold GM.put at h
  split at h
  · obtain ⟨q, hq, e⟩ := List.mem_map.1 h
    split at e
    · exact .inr e.symm
    · exact .inl (e ▸ hq)
  · rcases List.mem_append.1 h with h | h
    · exact .inl h
    · exact .inr (List.mem_singleton.1 h)
def BfOk (L : List JX) (b pb : Option Nat) : Prop := match b with
  | none => pb = none
  | some j => ∃ y, L[j]? = some y ∧ pb = some y.b
theorem JOk.fin {g o n : Nat} {l : List Ev} {M : JM} (h : JOk g o l n M) (S : Nat) (x : Ev) (b pb : Option Nat) (hb : BfOk M.stays b pb) (sa : Option Addr) (sc : Nat) : JOk g o l (n + 1) (finJ M (newX S x b pb) x.proc sa sc) := by
  have hl : ∀ (y : JX) (m : Nat), JXOk l M.stays m y → JXOk l (M.stays ++ [newX S x b pb]) m y := fun y m hy => by
    refine ⟨?_, hy.tr, hy.nx, hy.vw, hy.rd, hy.gots, hy.ups, hy.gl, hy.ul⟩
    have hbf := hy.bf
    cases hj : y.s.bf with
    | none => rw [hj] at hbf; exact hbf
    | some j =>
      rw [hj] at hbf
      obtain ⟨z, hz, hp⟩ := hbf
      exact ⟨z, by rw [List.getElem?_append_left (List.getElem?_eq_some_iff.1 hz).1]; exact hz, hp⟩
  refine ⟨fun p hp => ?_, fun y hy => ?_, ?_, h.la, h.ll⟩
  · show p.2 < (M.stays ++ [newX S x b pb]).length
    rw [List.length_append, List.length_singleton]
    rcases put_memJ hp with hp | rfl
    · have := h.now p hp; omega
    · show M.stays.length < _; omega
  · rcases List.mem_append.1 hy with hy | hy
    · exact hl y _ ((h.st y hy).more (Nat.le_succ n))
    · rw [List.mem_singleton.1 hy]
      refine hl _ _ ⟨?_, fun e he => (by cases he), fun e he => (by cases he), fun e he => (by cases he), fun e he => (by cases he), fun p hp => (by cases hp), fun p hp => (by cases hp), Nat.zero_le _, Nat.zero_le _⟩
      cases b with
      | none => exact hb
      | some j => exact hb
  · show (M.stays ++ [newX S x b pb]).length ≤ n + 1
    rw [List.length_append, List.length_singleton]
    have := h.n
    omega
theorem projJ_fin (M : JM) (S : Nat) (x : Ev) (b pb : Option Nat) (sa : Option Addr) (sc : Nat) : projJ (finJ M (newX S x b pb) x.proc sa sc) = (projJ M).enter x b := by
  unfold projJ finJ J.enter
  simp [newX]
theorem jparts_fin (g o : Nat) (l : List Ev) (M : JM) (y : JX) (p : Int) (sa : Option Addr) (sc : Nat) (R : List Pc) :
    (((jparts g o l M ++ (sP g o l y ++ R)).set 4 (jNow (finJ M y p sa sc))).set 2 (jPtr (finJ M y p sa sc))).set 0 (jTr (finJ M y p sa sc)) = jparts g o l (finJ M y p sa sc) ++ R := by
  show jTr (finJ M y p sa sc) :: jBad M :: jPtr (finJ M y p sa sc) :: jLive M :: jNow (finJ M y p sa sc) :: (M.stays.flatMap (sP g o l) ++ (sP g o l y ++ R)) = _
  unfold jparts
  show _ = jTr (finJ M y p sa sc) :: jBad M :: jPtr (finJ M y p sa sc) :: jLive M :: jNow (finJ M y p sa sc) :: ((M.stays ++ [y]).flatMap (sP g o l) ++ R)
  simp
end Go.Proofs.YtogagkgkmoppmaaGreatDoor
