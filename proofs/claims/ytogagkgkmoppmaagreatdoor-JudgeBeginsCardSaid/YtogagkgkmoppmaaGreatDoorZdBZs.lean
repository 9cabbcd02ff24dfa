/-
  An empty map's values, collected and sorted: nothing.
  Conditions: those that each theorem names.
-/
import Derived.Test.YtogagkgkmoppmaaGreatDoorJuAZs
import Derived.Test.YtogagkgkmoppmaaGreatDoorJuQ
import Derived.RangeFuncFrom
import Derived.WalkKit
import Derived.Shelf.Abstract
import Derived.Test.YtogagkgkmoppmaaGreatDoorJuE
namespace Go.Proofs.YtogagkgkmoppmaaGreatDoor
set_option linter.unusedVariables false
set_option linter.unusedSimpArgs false
open Go.RowKit GM Go.Shelf
theorem mapAt_below {w w' : World} {mb clock : Nat} (hb : w.heap[mb]? = some (.map #[] clock)) (h : Below w.heap.size w w') : w'.heap[mb]? = some (.map #[] clock) := (h.block _ (Array.getElem?_eq_some_iff.1 hb).1).trans hb
theorem stops_none (Bm mb clock : Nat) (w : World) (hl : Bm < w.heap.size) (hm : w.cell? ⟨Bm, 0, none⟩ = some (.map (some mb))) (hb : w.heap[mb]? = some (.map #[] clock)) (n : Nat) :
    SeqStopsK (α := Empty) Fence.wide n Tryz.prog 82 #[.pointer (some ⟨Bm, 0, none⟩)] (fun x => x.elim) (fun _ _ => True) (fun xs => xs = []) (fun _ => False) 0 w := fun l J Jx W hW hJ hJx hY h0 =>
  callsIn_wide.2 ((values1_none (.func (.yield l) #[] #[]) Bm mb clock W ((hW.cell (p := ⟨Bm, 0, none⟩) hl).trans hm) (mapAt_below hb hW)).mono fun e W' ⟨h1, h2⟩ =>
    ⟨⟨_, h1⟩, .inl ⟨[], rfl, by rw [h2]; exact hJ [] W _ none h0 (World.grownBy_alloc W _ none) (fun r e => by cases e)⟩⟩)
set_option maxRecDepth 100000 in
set_option maxHeartbeats 4000000 in
theorem appendSeq_none (Bm mb clock : Nat) (w : World) (hl : Bm < w.heap.size) (hm : w.cell? ⟨Bm, 0, none⟩ = some (.map (some mb))) (hb : w.heap[mb]? = some (.map #[] clock)) :
    Calls Tryz.prog 87 #[.slice none 0 0, .func (.func 82) #[] #[.pointer (some ⟨Bm, 0, none⟩)]] w fun e w' => e = .returned (.slice none 0 0) ∧ Below w.heap.size w w' := by
  refine (callsIn_wide (n := 4)).1 ?_
  refine callsIn_of_wp_marks Tryz.func87 rfl trivial ?_ rfl
  simp only [Tryz.ntmps87, List.size_toArray, List.length_cons, List.length_nil, Nat.reduceAdd, Nat.reduceSub, Array.replicate_succ, Array.replicate_zero, List.push_toArray, List.append_toArray, List.nil_append, List.cons_append]
  gi_wp2
  obtain ⟨W0, hW0⟩ : ∃ W0, W0 = w.alloc (.cells #[.slice none 0 0] 22) := ⟨_, rfl⟩
  have hb0 : Below w.heap.size w W0 := by rw [hW0]; exact ba (br w) _
  have hbox : W0.cell? ⟨w.heap.size, 0, none⟩ = some (.slice none 0 0) := by rw [hW0]; exact cell_of_row _ _ 0 _ _ _ (heap_alloc_new w _)
  rw [← hW0]
  refine wpIn_rangeFunc_ownF (α := Empty) rfl (by omega) (gf := 82) (lb := #[.pointer (some ⟨Bm, 0, none⟩)]) rfl trivial (enters_of Tryz.func82 (by kernel_rfl) rfl)
    (stops_none Bm mb clock W0 (Nat.lt_of_lt_of_le hl hb0.size) ((hb0.cell (p := ⟨Bm, 0, none⟩) hl).trans hm) (mapAt_below hb hb0) (4 - 1)) (fun _ _ => trivial) (fun _ _ _ _ _ _ _ _ => trivial) (br W0) (fun x => x.elim)
    (fun _ W => W.cell? ⟨w.heap.size, 0, none⟩ = some (.slice none 0 0) ∧ Below w.heap.size w W) (fun _ _ _ => False)
    (OwnFrom.and (Own.from (fun s A B row hs hg hr => cell_kept hs hg hr) _) (ownFrom_below (Nat.le_refl _) hb0.size)) (fun _ _ _ _ _ hs _ _ => hs) ⟨hbox, hb0⟩ (fun x => x.elim) (fun l x => x.elim) (fun l pre x => x.elim) ?done ?stop
  case done =>
    rintro D ys W hD rfl ⟨hc, hB⟩ hK
    gi_wp2
    refine ⟨by simp, .inl ⟨_, _, rfl, run_takeDeferred hK, ?_⟩⟩
    exact ⟨_, results_tmp rfl _ _ _, rfl, hB.trans (belowK_b (w := w) (Nat.le_refl _) W D _ _ (Nat.le_trans hb0.size hD) hK rfl rfl)⟩
  case stop =>
    rintro D c pre W _ h _
    exact h.elim
set_option maxHeartbeats 4000000 in
theorem collect_none (Bm mb clock : Nat) (w : World) (hl : Bm < w.heap.size) (hm : w.cell? ⟨Bm, 0, none⟩ = some (.map (some mb))) (hb : w.heap[mb]? = some (.map #[] clock)) :
    Calls Tryz.prog 80 #[.func (.func 82) #[] #[.pointer (some ⟨Bm, 0, none⟩)]] w fun e w' => e = .returned (.slice none 0 0) ∧ Below w.heap.size w w' := by
  have HA := Lib.hid (appendSeq_none Bm mb clock w hl hm hb)
  clear hm hb
  go_enter Tryz.func80, Tryz.ntmps80
  go_wp2_with fail
  refine HA.out.mono ?_
  rintro e w' ⟨rfl, hE⟩
  have HE := Lib.hid hE
  clear hE HA
  go_wp2_with fail
  go_ret
  exact ⟨rfl, HE.out⟩
set_option maxHeartbeats 4000000 in
theorem sorted_none (c : Value) (Bm mb clock : Nat) (w : World) (hl : Bm < w.heap.size) (hm : w.cell? ⟨Bm, 0, none⟩ = some (.map (some mb))) (hb : w.heap[mb]? = some (.map #[] clock)) :
    Calls Tryz.prog 60 #[.func (.func 82) #[] #[.pointer (some ⟨Bm, 0, none⟩)], c] w fun e w' => e = .returned (.slice none 0 0) ∧ Below w.heap.size w w' := by
  have HA := Lib.hid (collect_none Bm mb clock w hl hm hb)
  have HS := Lib.hid (fun W => sort_none c W)
  clear hm hb
  go_enter Tryz.func60, Tryz.ntmps60
  go_wp2_with fail
  refine HA.out.mono ?_
  rintro e w' ⟨rfl, hE⟩
  have HE := Lib.hid hE
  clear hE HA
  go_wp2_with fail
  refine (HS.out _).mono ?_
  rintro e w2 ⟨rfl, rfl⟩
  go_wp2_with fail
  go_ret
  exact ⟨rfl, HE.out⟩
set_option maxHeartbeats 4000000 in
theorem values_any (v : Option Nat) (w : World) : Calls Tryz.prog 61 #[.map v] w fun e w' => e = .returned (.func (.func 82) #[] #[.pointer (some ⟨w.heap.size, 0, none⟩)]) ∧ w' = w.alloc (.cells #[.map v] 132) := by
  go_enter Tryz.func61, Tryz.ntmps61
  go_wp2_with fail
  go_ret
  exact ⟨rfl, rfl⟩
set_option maxRecDepth 100000 in
set_option maxHeartbeats 8000000 in
theorem views_none {w : World} {g o : Nat} {l : List Ev} {nm : Nat → List NameK} (hT : Tr w g o l nm) (ad : Option Addr) (had : 0 < l.length → ad = some ⟨g, o, none⟩) (cap : Nat) (hl : l.length ≤ 5000) (hno : ∀ x ∈ l, x.kind ≠ 7) :
    Calls Tryz.prog 28 #[.slice ad l.length cap] w fun e w' => e = .returned (.tuple #[.slice none 0 0, .bool true]) ∧ Below w.heap.size w w' := by
  obtain ⟨n, hn⟩ : ∃ n, n = l.length := ⟨_, rfl⟩
  obtain ⟨w1, hw1⟩ : ∃ w1, w1 = w.alloc (.map #[] 0) := ⟨_, rfl⟩
  obtain ⟨mb, hmb⟩ : ∃ mb, mb = w.heap.size := ⟨_, rfl⟩
  have hb1 : Below w.heap.size w w1 := by rw [hw1]; exact ba (br w) _
  have hm1 : w1.heap[mb]? = some (.map #[] 0) := by rw [hw1, hmb]; exact heap_alloc_new w _
  have H0 := Lib.hid (br w1)
  have HH := Lib.hid (And.intro hT (And.intro had (And.intro hno (And.intro hn (And.intro hb1 hm1)))))
  have hn9 : n ≤ 5000 := by rw [hn]; exact hl
  have hmm := @run_makeMap Tryz.prog
  rw [← hn]
  clear hT had hl hno hn hb1 hm1
  go_enter Tryz.func28, Tryz.ntmps28
  go_upto_region 2 with (fail)
  rw [← hw1, ← hmb]
  clear hw1 hmb hmm
  go_wp2_with fail
  go_loopw [5, 13] (fun b i wr => ∃ j : Nat, j ≤ n ∧ b = .bool true ∧ i = .int .i64 (j : Int) ∧ Hid (Below w1.heap.size w1 wr)) (fun _ i _ => n - (intOf i).toNat)
  case atStart => exact ⟨0, by omega, rfl, rfl, H0⟩
  case round =>
    obtain ⟨j, hj, rfl, rfl, HW⟩ := hrel
    by_cases hlt : j < n
    · have hd1 : decide ((j : Int) < (n : Int)) = true := by rw [decide_eq_true_eq]; omega
      have hd2 : decide (j < n) = true := by rw [decide_eq_true_eq]; omega
      have hd3 : (j : Int) < (n : Int) := by omega
      have hjl : j < l.length := by rw [← HH.out.2.2.2.1]; exact hlt
      obtain ⟨x, hx⟩ : ∃ x, l[j]? = some x := ⟨_, List.getElem?_eq_getElem hjl⟩
      have hTr := (HH.out.1.below HH.out.2.2.2.2.1).below HW.out
      have hr : wr.rangeAt g (o + j * 19) (evA x).toList := by
        have h := (hTr.ev j hjl).2.1
        rwa [show l[j] = x from by rw [List.getElem?_eq_getElem hjl] at hx; injection hx] at h
      have had := HH.out.2.1 (by omega)
      have hk7 := HH.out.2.2.1 x (List.mem_of_getElem? hx)
      obtain ⟨cx, hcx⟩ : ∃ cx, cx = evA x := ⟨_, rfl⟩
      rw [← hcx] at hr
      have y1 : cx.size = 19 := by rw [hcx]; rfl
      have p1 : cx.all (·.oneCell') = true := by rw [hcx]; simp [evA, Value.oneCell']
      have hc1 : cx.toList.toArray = cx := by simp
      obtain ⟨X, hX⟩ : ∃ X, X = wr.heap.size := ⟨_, rfl⟩
      have hz := heap_alloc_new wr (.cells zEv 36)
      have hbz := ba (br wr) (.cells zEv 36)
      rw [← hX] at hz
      obtain ⟨w2, hw2⟩ : ∃ w2, w2 = (wr.alloc (.cells zEv 36)).setRow X cx := ⟨_, rfl⟩
      have hb2 : Below wr.heap.size wr w2 := by rw [hw2]; exact (kept_setRow' (wr.alloc (.cells zEv 36)) X cx).out hbz hbz.size (fun k hk' e => by omega)
      have hx2 : w2.heap[X]? = some (.cells cx 36 (0, 0)) := by rw [hw2]; exact setRow_heap _ _ _ _ _ _ hz
      have HZ := Lib.hid (And.intro hz hX)
      have HG := Lib.hid (And.intro hr (And.intro y1 (And.intro p1 (And.intro hcx hlt))))
      have H2 := Lib.hid (bt HW.out hb2)
      rw [hcx] at hx2
      have e0 : w2.cell? ⟨X, 0, none⟩ = some (.int .i64 x.kind) := cell_of_row _ _ 0 _ _ _ hx2
      have dk : (x.kind != 7) = true := by simpa using hk7
      rw [had]
      clear hr hz hbz hX hx2 y1 p1 hcx hx hlt hjl hTr hb2 HW H0 had hk7
      unfold zEv at hw2 HZ
      go_upto_region 6 with (first
        | (with_reducible refine wpList_load_mid rfl 36 (.tmp 15) rfl g (o + j * 19) rfl cx.toList _ HG.out.1 Tryz.underlying36 rfl (by rw [Array.length_toList, HG.out.2.1]; kernel_rfl) ?_)
        | (refine wpList_store_row rfl 36 (.tmp 7) (.tmp 16) rfl X cx (by rw [HZ.out.2]; rfl) (by rw [← hc1]; rfl) 36 _ HZ.out.1 (by rw [HG.out.2.1]; kernel_rfl) (by rw [HG.out.2.1]; rfl) HG.out.2.2.1 ?_)
        | fail)
      rw [← hw2, ← HZ.out.2]
      clear hw2 hc1 HZ
      go_wp2_with fail
      exact ⟨⟨j + 1, HG.out.2.2.2.2, rfl, by go_num, H2⟩, by have := HG.out.2.2.2.2; simp [intOf]; omega⟩
    · have hd1 : decide ((j : Int) < (n : Int)) = false := by rw [decide_eq_false_iff_not]; omega
      have hd2 : decide (j < n) = false := by rw [decide_eq_false_iff_not]; omega
      have HV := Lib.hid (fun W => values_any (some mb) W)
      have HE := Lib.hid (show ∀ c : Value, Calls Tryz.prog 60 #[.func (.func 82) #[] #[.pointer (some ⟨wr.heap.size, 0, none⟩)], c] (wr.alloc (.cells #[.map (some mb)] 132)) fun e w' => e = .returned (.slice none 0 0) ∧ Below w.heap.size w w' from fun c =>
        (sorted_none c wr.heap.size mb 0 (wr.alloc (.cells #[.map (some mb)] 132)) (by simp) (cell_of_row _ _ 0 _ _ _ (heap_alloc_new wr _)) (mapAt_below (mapAt_below HH.out.2.2.2.2.2 HW.out) (ba (br wr) _))).mono fun e w' ⟨h1, h2⟩ => ⟨h1, bt HH.out.2.2.2.2.1 (bt HW.out (bt (ba (br wr) _) h2))⟩)
      clear HW H0 hlt
      go_wp2_with fail
      refine (HV.out _).mono ?_
      rintro e w3 ⟨rfl, rfl⟩
      go_wp2_with fail
      refine (HE.out _).mono ?_
      rintro e w4 ⟨rfl, hB⟩
      have HB := Lib.hid hB
      clear hB HE HV
      go_wp2_with fail
      go_ret2
      exact ⟨rfl, HB.out⟩
end Go.Proofs.YtogagkgkmoppmaaGreatDoor
namespace Go.Proofs.YtogagkgkmoppmaaGreatDoor
set_option linter.unusedVariables false
set_option linter.unusedSimpArgs false
open Go.RowKit GM
/-- what has become of a judge while no stay comes or goes -/
def JMid (wB : World) (g o : Nat) (l : List Ev) (R : List Pc) (n : Nat) (M : JM) (t : J) (w' : World) : Prop :=
  ∃ M', At wB (jparts g o l M' ++ R) w' ∧ JOk g o l n M' ∧ projJ M' = t ∧ M'.h = M.h ∧ M'.stays.map (·.b) = M.stays.map (·.b) ∧ M'.sa = M.sa ∧ M'.sc = M.sc
theorem JMid.below {wB w w' : World} {g o n : Nat} {l : List Ev} {R : List Pc} {M : JM} {t : J} (h : JMid wB g o l R n M t w) (hb : Below w.heap.size w w') : JMid wB g o l R n M t w' := by
  obtain ⟨M', h1, h2⟩ := h
  exact ⟨M', h1.below hb, h2⟩
theorem JMid.bel {wB w : World} {g o n : Nat} {l : List Ev} {R : List Pc} {M : JM} {t : J} (h : JMid wB g o l R n M t w) : Below wB.heap.size wB w := by
  obtain ⟨M', h1, h2⟩ := h
  exact h1.bel
theorem JMid.brk {wB w : World} {g o n : Nat} {l : List Ev} {R : List Pc} {M : JM} {t : J} (h : JMid wB g o l R n M t w) (r : Int) :
    ∀ w1, Below w.heap.size w w1 → ∀ b : Bool, Calls Tryz.prog 22 #[.pointer (some ⟨M.h.T, 0, none⟩), .int .i64 r, .bool b] w1 fun e w' => e = .returned (.tuple #[]) ∧ JMid wB g o l R n M (t.br r b) w' := fun w1 hb b => by
  obtain ⟨M', h1, h2, h3, h4, h5, h6, h7⟩ := h
  rw [← h4]
  refine (jbreaks_any (h1.below hb) r b).mono ?_
  rintro e w' ⟨he, ha⟩
  obtain ⟨e1, e2, _, _, e5, e6⟩ := br_fix M' r b
  exact ⟨he, _, ha, h2.br r b, by rw [projJ_br, h3], e1.trans h4, by rw [e2]; exact h5, e5.trans h6, e6.trans h7⟩
theorem JMid.len {wB w : World} {g o n : Nat} {l : List Ev} {R : List Pc} {M : JM} {t : J} (h : JMid wB g o l R n M t w) : t.stays.length = M.stays.length := by
  obtain ⟨M', h1, h2, h3, h4, h5, _⟩ := h
  have := congrArg List.length h5
  rw [← h3]
  simpa [projJ] using this
/-- a stay as it stands -/
theorem JMid.stay {wB w : World} {g o n : Nat} {l : List Ev} {R : List Pc} {M : JM} {t : J} (h : JMid wB g o l R n M t w) {k : Nat} (hk : k < M.stays.length) :
    ∃ s, t.stays[k]? = some s ∧ ∃ x : JX, x.s = s ∧ x.b = M.stays[k].b ∧ JXOk l [] n { x with s := { x.s with bf := none }, pb := none } ∧ (w.heap[M.stays[k].b]? = some (.cells (jsC g o x) 56 (0, 0))) ∧
      (∃ b, M.sa = some ⟨b, 0, none⟩ ∧ b < w.heap.size ∧ w.cell? ⟨b, k, none⟩ = some (.pointer (some ⟨M.stays[k].b, 0, none⟩))) := by
  obtain ⟨M', h1, h2, h3, h4, h5, h6, h7⟩ := h
  have hl := congrArg List.length h5
  have hk' : k < M'.stays.length := by simp at hl; omega
  have hb : M'.stays[k].b = M.stays[k].b := by
    have e1 := congrArg (fun L => L[k]?) h5
    simp [hk, hk'] at e1
    exact e1
  have hx := h2.st _ (List.getElem_mem hk')
  obtain ⟨b, e1, e2, e3⟩ := jown_nth h1.own hk'
  refine ⟨M'.stays[k].s, by rw [← h3]; simp [projJ, hk'], M'.stays[k], rfl, hb, ⟨rfl, hx.tr, hx.nx, hx.vw, hx.rd, hx.gots, hx.ups, hx.gl, hx.ul⟩, by rw [← hb]; exact jown_st h1.own (List.getElem_mem hk'), b, by rw [← h6]; exact e1, e2, by rw [e3, hb]; rfl⟩
def newX (S : Nat) (x : Ev) (b : Option Nat) (pb : Option Nat) : JX := ⟨S, newJ x b, none, 0, none, 0, pb⟩
/-- a new stay -/
theorem new_stayJ {wB w : World} {g o : Nat} {l : List Ev} {L : List Pc} (h : At wB L w) (x : Ev) (b pb : Option Nat) : At wB (sP g o l (newX w.heap.size x b pb) ++ L) (w.alloc (.cells (jsC g o (newX w.heap.size x b pb)) 56)) := by
  have h1 := h.new (sUps l (newX w.heap.size x b pb)) (br w) ⟨rfl, .inl ⟨rfl, rfl⟩⟩ (fun b e => by cases e)
  have h2 := h1.new (sGots l (newX w.heap.size x b pb)) (br w) ⟨rfl, .inl ⟨rfl, rfl⟩⟩ (fun b e => by cases e)
  exact h2.new (sCells g o (newX w.heap.size x b pb)) (ba (br w) _) (heap_alloc_new w _) (fun b e => by injection e with e; exact Nat.le_of_eq e)
theorem live_lookJ {wB w : World} {g o : Nat} {l : List Ev} {M : JM} {R : List Pc} (h : Own w wB.heap.size (jparts g o l M ++ R)) (i : Int) : (Instr.lookup 46 (.map (some M.h.lb)) (.int .i64 i) false).run Tryz.prog w = .ok (.bool ((get M.live i).getD false)) w := by
  have := (jown_live h).lookup (P := Tryz.prog) Tryz.underlying46 intLaw (z := .bool false) (by kernel_rfl) i
  rw [get_vals] at this
  rw [this]
  cases get M.live i <;> rfl
theorem now_lookJ {wB w : World} {g o : Nat} {l : List Ev} {M : JM} {R : List Pc} (h : Own w wB.heap.size (jparts g o l M ++ R)) (i : Int) : (Instr.lookup 67 (.map (some M.h.nb)) (.int .i64 i) false).run Tryz.prog w = .ok (sV M (get M.now i)) w := by
  have := (jown_now h).lookup (P := Tryz.prog) Tryz.underlying67 intLaw (z := .pointer none) (by kernel_rfl) i
  rw [get_vals] at this
  rw [this]
  cases get M.now i <;> rfl
theorem now_ltJ {g o n : Nat} {l : List Ev} {M : JM} (h : JOk g o l n M) {i : Int} {k : Nat} (hk : get M.now i = some k) : k < M.stays.length := by
  unfold GM.get at hk
  cases hf : M.now.find? (fun x => decide (x.1 = i)) with
  | none => rw [hf] at hk; cases hk
  | some p =>
    rw [hf] at hk
    injection hk with hk
    rw [← hk]
    exact h.now p (List.mem_of_find?_eq_some hf)
def pbOf (M : JM) (b : Option Nat) : Option Nat := b.map fun k => (M.stays.map (·.b)).getD k 0
theorem sV_pb (M : JM) (b : Option Nat) : sV M b = .pointer ((pbOf M b).map fun b => ⟨b, 0, none⟩) := by cases b <;> rfl
theorem dups_snoc (x : Ev) (L : List JS) (s : JS) (t : J) : J.dups x (L ++ [s]) t = (J.dups x L t).br 1 (dupJ x s) := by simp [J.dups]
theorem dups_stays (x : Ev) : ∀ (L : List JS) (t : J), (J.dups x L t).stays = t.stays ∧ (J.dups x L t).now = t.now ∧ (J.dups x L t).live = t.live
  | [], t => ⟨rfl, rfl, rfl⟩
  | s :: L, t => by
    have h := dups_stays x L (t.br 1 (dupJ x s))
    obtain ⟨a1, a2, a3, _⟩ := t.br_stays 1 (dupJ x s)
    exact ⟨h.1.trans a1, h.2.1.trans a3, h.2.2.trans a2⟩
def nxX (x : JX) (i : Nat) : JX := { x with s := { x.s with nx := some i } }
/-- a stay went on -/
theorem JMid.nx {wB w : World} {g o n : Nat} {l : List Ev} {R : List Pc} {M : JM} {t : J} (h : JMid wB g o l R n M t w) {k : Nat} (hk : k < M.stays.length) {i : Nat} (hi : i < l.length) :
    ∃ s v, t.stays[k]? = some s ∧ w.cell? ⟨M.stays[k].b, 6, none⟩ = some v ∧ w.frozen? ⟨M.stays[k].b, 6, none⟩ = false ∧ JMid wB g o l R n M (t.setS k { s with nx := some i }) (w.setCell ⟨M.stays[k].b, 6, none⟩ (.pointer (some ⟨g, o + i * 19, none⟩))) := by
  obtain ⟨M', h1, h2, h3, h4, h5, h6, h7⟩ := h
  have hl := congrArg List.length h5
  have hk' : k < M'.stays.length := by simp at hl; omega
  have hb : M'.stays[k].b = M.stays[k].b := by
    have e1 := congrArg (fun L => L[k]?) h5
    simp [hk, hk'] at e1
    exact e1
  have hm := List.getElem_mem hk'
  have hst := jown_st h1.own hm
  have hx := h2.st _ hm
  refine ⟨M'.stays[k].s, _, by rw [← h3]; simp [projJ, hk'], by rw [← hb]; exact (cell_of_row _ _ 6 _ _ _ hst).trans rfl, by rw [← hb]; exact frozen_of_row _ _ _ _ _ hst, M'.setS k (nxX M'.stays[k] i), ?_, ?_, ?_, h4, ?_, h6, h7⟩
  · rw [← hb]
    exact jown_cell h1 hk' (x := nxX M'.stays[k] i) rfl rfl rfl (keptS w ⟨M'.stays[k].b, 6, none⟩ _) ((setCell_block hst 6 _).trans rfl)
  · exact h2.setS hk' rfl ⟨hx.bf, hx.tr, fun e he => by injection he with he; rw [← he]; exact hi, hx.vw, hx.rd, hx.gots, hx.ups, hx.gl, hx.ul⟩
  · rw [projJ_setS, h3]
    rfl
  · rw [← h5]
    show (M'.stays.set k (nxX M'.stays[k] i)).map (·.b) = _
    rw [List.map_set]
    apply List.ext_getElem
    · simp
    · intro j h1 h2
      rw [List.getElem_set]
      split
      · subst_vars; simp [nxX]
      · rfl
/-- a stay comes -/
def finJ (M : JM) (y : JX) (p : Int) (sa : Option Addr) (sc : Nat) : JM := { M with now := put M.now p M.stays.length, stays := M.stays ++ [y], sa := sa, sc := sc }
theorem nthJ_snoc (L : List JX) (y : JX) (A : List (Int × Nat)) (h : ∀ p ∈ A, p.2 < L.length) : vals (nthJ L) A = vals (nthJ (L ++ [y])) A := by
  unfold vals
  refine List.map_congr_left fun p hp => ?_
  have := h p hp
  unfold nthJ
  congr 2
  rw [List.map_append, List.getD_eq_getElem?_getD, List.getD_eq_getElem?_getD, List.getElem?_append_left (by simpa using this)]
theorem put_memJ {β : Type} {L : List (Int × β)} {i : Int} {v : β} {p : Int × β} (h : p ∈ put L i v) : p ∈ L ∨ p = (i, v) := by
  unfold GM.put at h
  split at h
  · obtain ⟨q, hq, e⟩ := List.mem_map.1 h
    split at e
    · exact .inr e.symm
    · exact .inl (e ▸ hq)
  · rcases List.mem_append.1 h with h | h
    · exact .inl h
    · exact .inr (List.mem_singleton.1 h)
def BfOk (L : List JX) (b pb : Option Nat) : Prop := match b with
  | none => pb = none
  | some j => ∃ y, L[j]? = some y ∧ pb = some y.b
theorem JOk.fin {g o n : Nat} {l : List Ev} {M : JM} (h : JOk g o l n M) (S : Nat) (x : Ev) (b pb : Option Nat) (hb : BfOk M.stays b pb) (sa : Option Addr) (sc : Nat) : JOk g o l (n + 1) (finJ M (newX S x b pb) x.proc sa sc) := by
  have hl : ∀ (y : JX) (m : Nat), JXOk l M.stays m y → JXOk l (M.stays ++ [newX S x b pb]) m y := fun y m hy => by
    refine ⟨?_, hy.tr, hy.nx, hy.vw, hy.rd, hy.gots, hy.ups, hy.gl, hy.ul⟩
    have hbf := hy.bf
    cases hj : y.s.bf with
    | none => rw [hj] at hbf; exact hbf
    | some j =>
      rw [hj] at hbf
      obtain ⟨z, hz, hp⟩ := hbf
      exact ⟨z, by rw [List.getElem?_append_left (List.getElem?_eq_some_iff.1 hz).1]; exact hz, hp⟩
  refine ⟨fun p hp => ?_, fun y hy => ?_, ?_, h.la, h.ll⟩
  · show p.2 < (M.stays ++ [newX S x b pb]).length
    rw [List.length_append, List.length_singleton]
    rcases put_memJ hp with hp | rfl
    · have := h.now p hp; omega
    · show M.stays.length < _; omega
  · rcases List.mem_append.1 hy with hy | hy
    · exact hl y _ ((h.st y hy).more (Nat.le_succ n))
    · rw [List.mem_singleton.1 hy]
      refine hl _ _ ⟨?_, fun e he => (by cases he), fun e he => (by cases he), fun e he => (by cases he), fun e he => (by cases he), fun p hp => (by cases hp), fun p hp => (by cases hp), Nat.zero_le _, Nat.zero_le _⟩
      cases b with
      | none => exact hb
      | some j => exact hb
  · show (M.stays ++ [newX S x b pb]).length ≤ n + 1
    rw [List.length_append, List.length_singleton]
    have := h.n
    omega
theorem projJ_fin (M : JM) (S : Nat) (x : Ev) (b pb : Option Nat) (sa : Option Addr) (sc : Nat) : projJ (finJ M (newX S x b pb) x.proc sa sc) = (projJ M).enter x b := by
  unfold projJ finJ J.enter
  simp [newX]
theorem jparts_fin (g o : Nat) (l : List Ev) (M : JM) (y : JX) (p : Int) (sa : Option Addr) (sc : Nat) (R : List Pc) :
    (((jparts g o l M ++ (sP g o l y ++ R)).set 4 (jNow (finJ M y p sa sc))).set 2 (jPtr (finJ M y p sa sc))).set 0 (jTr (finJ M y p sa sc)) = jparts g o l (finJ M y p sa sc) ++ R := by
  show jTr (finJ M y p sa sc) :: jBad M :: jPtr (finJ M y p sa sc) :: jLive M :: jNow (finJ M y p sa sc) :: (M.stays.flatMap (sP g o l) ++ (sP g o l y ++ R)) = _
  unfold jparts
  show _ = jTr (finJ M y p sa sc) :: jBad M :: jPtr (finJ M y p sa sc) :: jLive M :: jNow (finJ M y p sa sc) :: ((M.stays ++ [y]).flatMap (sP g o l) ++ R)
  simp
end Go.Proofs.YtogagkgkmoppmaaGreatDoor
