/-
  The judge: nothing twice, by rising keys, behind what it names.
  Conditions: those that each theorem names.
-/
import Derived.Test.YtogagkgkmoppmaaGreatDoorJuP
namespace Go.Proofs.YtogagkgkmoppmaaGreatDoor
set_option linter.unusedVariables false
set_option linter.unusedSimpArgs false
open Go.RowKit GM
/-- a struct is read behind a guard -/
theorem wpQuiet_load_midW {P : Program} {ops : Array Oper} {C : World → Prop} {Q : Act → Prop} {rest : List Oper} {o : Oper} {a : Act} (hw : Region.wanted o (yielded ops a.tmps) = true) (ty : TypeId) (x : Operand) (ho : o.op = .load ty x)
    (b off : Nat) (hx : a.eval x = .pointer (some ⟨b, off, none⟩)) (cs : List Value) (d : TypeDesc) (hc : ∀ w, C w → w.rangeAt b off cs)
    (hu : P.underlying ty = some d) (hd : d.isRow = true) (hi : (P.info? ty).map (·.size) = some cs.length) (h : wpQuiet P ops C Q rest (a.put o.dst (.agg cs.toArray))) : wpQuiet P ops C Q (o :: rest) a := by
  show (if Region.wanted o (yielded ops a.tmps) = true then _ else _)
  rw [if_pos hw]
  refine ⟨_, fun w hC => ?_, h⟩
  unfold Oper.quietAt execOp
  simp only [ho, hx, Instr.loadAt, Instr.sureAddr, Sem.run_bind, Sem.run_pure, Result.andThen_ok, run_loadVar_mid w b off ty cs d (hc w hC) hu hd hi]
  exact ⟨rfl, rfl⟩
theorem hadAt_at {l : List Ev} {k : HadK} {i : Nat} {x : Ev} (hx : l[i]? = some x) : hadAt l k i = (decide (x.kind = 2) && decide (hadJ x = k)) := by
  unfold hadAt
  rw [hx]
theorem any_succ (p : Nat → Bool) (i : Nat) : (List.range (i + 1)).any p = ((List.range i).any p || p i) := by
  rw [List.range_succ, List.any_append]
  simp
theorem twice1_at {l : List Ev} {t : J} {i : Nat} {x : Ev} (hx : l[i]? = some x) : t.twice l (i + 1) = if x.kind = 2 then (t.twice l i).br 3 ((List.range i).any (hadAt l (hadJ x))) else t.twice l i := by
  show (t.twice l i).twice1 l i = _
  unfold J.twice1
  rw [hx]
def SeenI (l : List Ev) (j : Nat) (S : List (HadK × Bool)) : Prop := ∀ k, (get S k).getD false = (List.range j).any (hadAt l k)
theorem SeenI.other {l : List Ev} {j : Nat} {S : List (HadK × Bool)} {x : Ev} (h : SeenI l j S) (hx : l[j]? = some x) (hk : ¬ x.kind = 2) : SeenI l (j + 1) S := fun k => by
  rw [h k, any_succ, hadAt_at hx, decide_eq_false hk]
  simp
theorem SeenI.put {l : List Ev} {j : Nat} {S : List (HadK × Bool)} {x : Ev} (h : SeenI l j S) (hx : l[j]? = some x) (hk : x.kind = 2) : SeenI l (j + 1) (put S (hadJ x) true) := fun k => by
  rw [any_succ, hadAt_at hx, decide_eq_true hk, get_put, ← h k]
  by_cases e : k = hadJ x
  · rw [if_pos e, decide_eq_true e.symm]
    simp
  · rw [if_neg e, decide_eq_false (fun h => e h.symm)]
    simp
def JSn (wB : World) (g o : Nat) (l : List Ev) (R : List Pc) (N : Nat) (M : JM) (hb j : Nat) (t : J) (w : World) : Prop := ∃ S : List (HadK × Bool), SeenI l j S ∧ JB wB g o l (mapPc hadV hb (vals boolV S) :: R) N M t w
abbrev intZ (z : Int) : Value := .int .i64 z
def CntI (l : List Ev) (L : List (Nat × Bool)) (i : Nat) (C : List (Int × Int)) : Prop := ∀ q, (get C q).getD 0 = (cntG l (L.take i) q : Int)
theorem CntI.put {l : List Ev} {L : List (Nat × Bool)} {i : Nat} {C : List (Int × Int)} (h : CntI l L i C) (hi : i < L.length) : CntI l L (i + 1) (put C (gotM l L[i]).frm ((get C (gotM l L[i]).frm).getD 0 + 1)) := fun q => by
  rw [get_put]
  have e : (cntG l (L.take (i + 1)) q : Int) = cntG l (L.take i) q + (if (gotM l L[i]).frm = q then 1 else 0) := by
    unfold cntG
    rw [List.take_succ_eq_append_getElem hi, List.filter_append, List.length_append, List.filter_cons, List.filter_nil]
    by_cases e : (gotM l L[i]).frm = q
    · simp [e]
    · simp [e]
  rw [e]
  by_cases hq : q = (gotM l L[i]).frm
  · rw [if_pos hq, if_pos hq.symm, h, hq]
    rfl
  · rw [if_neg hq, if_neg (fun h => hq h.symm), h]
    omega
theorem cntG_le (l : List Ev) (L : List (Nat × Bool)) (i : Nat) (q : Int) : cntG l (L.take i) q ≤ i := Nat.le_trans (List.length_filter_le _ _) (List.length_take_le _ _)
def zGot : Array Value := #[.int .i64 0, .int .i64 0, .int .u32 0, .int .u64 0, .int .i64 0, .slice none 0 0, .string ⟨#[]⟩, .bool false]
def keysB (l : List Ev) (L : List (Nat × Bool)) (i : Nat) (x : Msg) : Bool := match L[i - 1]? with
  | none => false
  | some p => decide (0 < i) && lessJ (gotM l p) x
theorem keys_at {l : List Ev} {t : J} {L : List (Nat × Bool)} {i : Nat} (hi : i < L.length) : t.keys l L (i + 1) = ((t.keys l L i).br 3 (keysB l L i (gotM l L[i]))).deps l (L.take i) (gotM l L[i]).ds (gotM l L[i]).ds.length := by
  show (t.keys l L i).keys1 l L i = _
  unfold J.keys1 keysB
  rw [List.getElem?_eq_getElem hi]
  rfl
def JCt (wB : World) (g o : Nat) (l : List Ev) (R : List Pc) (N : Nat) (M : JM) (cb : Nat) (L : List (Nat × Bool)) (i : Nat) (t : J) (w : World) : Prop := ∃ C : List (Int × Int), CntI l L i C ∧ JB wB g o l (mapPc intV cb (vals intZ C) :: R) N M t w
set_option maxRecDepth 100000 in
set_option maxHeartbeats 16000000 in
theorem once_any {wB w : World} {g o N : Nat} {l : List Ev} {nm : Nat → List NameK} {R : List Pc} {M : JM} {t : J} (h : JB wB g o l R N M t w) (hT : Tr wB g o l nm) (hl : l.length ≤ 5000) (hN : N ≤ 5000) :
    Calls Tryz.prog 12 #[.pointer (some ⟨M.h.T, 0, none⟩)] w fun e w' => e = .returned (.tuple #[]) ∧ JB wB g o l R N M ((t.twice l l.length).once l M.stays.length) w' := by
  obtain ⟨n, hn⟩ : ∃ n, n = l.length := ⟨_, rfl⟩
  obtain ⟨hb, hhb⟩ : ∃ b, b = w.heap.size := ⟨_, rfl⟩
  obtain ⟨w1, hw1⟩ : ∃ w1, w1 = w.alloc (.map #[] 0) := ⟨_, rfl⟩
  have h1 := JB.made hadV boolV h
  rw [← hw1, ← hhb] at h1
  have H0 := Lib.hid (show JSn wB g o l R N M hb 0 (t.twice l 0) w1 from ⟨[], fun k => rfl, h1⟩)
  have c0 : w1.cell? ⟨M.h.T, 0, none⟩ = some (.slice M.h.la n M.h.lc) := by rw [h1.trace.2.2.1 ⟨w1, br w1⟩, h1.trace.1, hn]
  obtain ⟨TT, hTT⟩ : ∃ T, T = M.h.T := ⟨_, rfl⟩
  obtain ⟨la, hla⟩ : ∃ a, a = M.h.la := ⟨_, rfl⟩
  obtain ⟨lc, hlc⟩ : ∃ a, a = M.h.lc := ⟨_, rfl⟩
  rw [← hTT, ← hla, ← hlc] at c0
  have HLS := Lib.hid (show 0 < l.length → la = some ⟨g, o, none⟩ from fun h => hla.trans (h1.trace.2.1 h))
  have HH := Lib.hid (And.intro hT (And.intro hl (And.intro hN (And.intro hn (And.intro hTT (And.intro hla hlc))))))
  have hn9 : n ≤ 5000 := by rw [hn]; exact hl
  have hmm := @run_makeMap Tryz.prog
  rw [← hTT]
  clear h hT hl hN hn hTT h1 hla hlc
  rw [← HH.out.2.2.2.1]
  go_enter Tryz.func12, Tryz.ntmps12
  go_upto_region 1 with (fail)
  rw [← hw1, ← hhb]
  clear hw1 hhb hmm
  go_wp2_with fail
  clear c0
  go_loopw [19] (fun i wr => ∃ j : Nat, j ≤ n ∧ i = .int .i64 (j : Int) ∧ Hid (JSn wB g o l R N M hb j (t.twice l j) wr)) (fun i _ => n - (intOf i).toNat)
  case atStart => exact ⟨0, by omega, rfl, H0⟩
  case round =>
    obtain ⟨j, hj, rfl, HW⟩ := hrel
    by_cases hlt : j < n
    · have hd1 : decide ((j : Int) < (n : Int)) = true := by rw [decide_eq_true_eq]; omega
      have hd2 : decide (j < n) = true := by rw [decide_eq_true_eq]; omega
      have hd3 : (j : Int) < (n : Int) := by omega
      have hjl : j < l.length := by rw [← HH.out.2.2.2.1]; exact hlt
      obtain ⟨x, hx⟩ : ∃ x, l[j]? = some x := ⟨_, List.getElem?_eq_getElem hjl⟩
      have hbw : Below wB.heap.size wB wr := by
        obtain ⟨L, _, hJ⟩ := HW.out
        exact hJ.bel
      have hTr := HH.out.1.below hbw
      have hr : wr.rangeAt g (o + j * 19) (evA x).toList := by
        have h := (hTr.ev j hjl).2.1
        rwa [show l[j] = x from by rw [List.getElem?_eq_getElem hjl] at hx; injection hx] at h
      have had := HLS.out (by omega)
      obtain ⟨cx, hcx⟩ : ∃ cx, cx = evA x := ⟨_, rfl⟩
      rw [← hcx] at hr
      have y1 : cx.size = 19 := by rw [hcx]; rfl
      have p1 : cx.all (·.oneCell') = true := by rw [hcx]; simp [evA, Value.oneCell']
      have hc1 : cx.toList.toArray = cx := by simp
      obtain ⟨X, hX⟩ : ∃ X, X = wr.heap.size := ⟨_, rfl⟩
      have hz := heap_alloc_new wr (.cells zEv 36)
      have hbz := ba (br wr) (.cells zEv 36)
      rw [← hX] at hz
      obtain ⟨w2, hw2⟩ : ∃ w2, w2 = (wr.alloc (.cells zEv 36)).setRow X cx := ⟨_, rfl⟩
      have hb2 : Below wr.heap.size wr w2 := by rw [hw2]; exact (kept_setRow' (wr.alloc (.cells zEv 36)) X cx).out hbz hbz.size (fun k hk' e => by omega)
      have hx2 : w2.heap[X]? = some (.cells cx 36 (0, 0)) := by rw [hw2]; exact setRow_heap _ _ _ _ _ _ hz
      have HZ := Lib.hid (And.intro hz hX)
      have HG := Lib.hid (And.intro hr (And.intro y1 (And.intro p1 (And.intro hcx (And.intro hx hlt)))))
      have H2 := Lib.hid (show JSn wB g o l R N M hb j (t.twice l j) w2 from by
        obtain ⟨L, h1, h2⟩ := HW.out
        exact ⟨L, h1, h2.below hb2⟩)
      rw [hcx] at hx2
      have e0 : w2.cell? ⟨X, 0, none⟩ = some (.int .i64 x.kind) := cell_of_row _ _ 0 _ _ _ hx2
      have e1 : w2.cell? ⟨X, 1, none⟩ = some (.int .i64 x.proc) := cell_of_row _ _ 1 _ _ _ hx2
      have e2 : w2.cell? ⟨X, 2, none⟩ = some (.int .u64 (x.ce : Int)) := cell_of_row _ _ 2 _ _ _ hx2
      have e3 : w2.cell? ⟨X, 3, none⟩ = some (.int .i64 x.cr) := cell_of_row _ _ 3 _ _ _ hx2
      have e7 : w2.cell? ⟨X, 7, none⟩ = some (.int .i64 x.m.frm) := cell_of_row _ _ 7 _ _ _ hx2
      have e8 : w2.cell? ⟨X, 8, none⟩ = some (.int .u32 (x.m.seq : Int)) := cell_of_row _ _ 8 _ _ _ hx2
      have HX := Lib.hid hx2
      rw [had]
      clear hr hz hbz hX hx2 y1 p1 hcx hx hlt hjl hTr hbw hb2 HW H0 had
      unfold zEv at hw2 HZ
      go_upto_region 4 with (first
        | (with_reducible refine wpList_load_mid rfl 36 (.tmp 21) rfl g (o + j * 19) rfl cx.toList _ HG.out.1 Tryz.underlying36 rfl (by rw [Array.length_toList, HG.out.2.1]; kernel_rfl) ?_)
        | (refine wpList_store_row rfl 36 (.tmp 4) (.tmp 22) rfl X cx (by rw [HZ.out.2]; rfl) (by rw [← hc1]; rfl) 36 _ HZ.out.1 (by rw [HG.out.2.1]; kernel_rfl) (by rw [HG.out.2.1]; rfl) HG.out.2.2.1 ?_)
        | fail)
      rw [← hw2, ← HZ.out.2]
      clear hw2 hc1 HZ
      by_cases k2 : x.kind = 2
      · rw [k2] at e0
        have HK2 := Lib.hid k2
        clear k2
        obtain ⟨cw, hcw⟩ : ∃ c, c = #[Value.int .i64 x.proc, .int .u64 (x.ce : Int), .int .i64 x.cr, .int .i64 x.m.frm, .int .u32 (x.m.seq : Int)] := ⟨_, rfl⟩
        obtain ⟨w3, hw3⟩ : ∃ w3, w3 = w2.alloc (.cells #[.int .i64 x.proc, .int .u64 (x.ce : Int), .int .i64 x.cr, .int .i64 x.m.frm, .int .u32 (x.m.seq : Int)] 79) := ⟨_, rfl⟩
        obtain ⟨KB, hKB⟩ : ∃ KB, KB = w2.heap.size := ⟨_, rfl⟩
        obtain ⟨S, hS, hJ2⟩ := H2.out
        have hJ3 := hJ2.var #[.int .i64 x.proc, .int .u64 (x.ce : Int), .int .i64 x.cr, .int .i64 x.m.frm, .int .u32 (x.m.seq : Int)] 79 (by decide) (by decide)
        rw [← hw3, ← hKB] at hJ3
        have hk3 : w3.heap[KB]? = some (.cells #[.int .i64 x.proc, .int .u64 (x.ce : Int), .int .i64 x.cr, .int .i64 x.m.frm, .int .u32 (x.m.seq : Int)] 79 (0, 0)) := hJ3.part List.mem_cons_self
        have H3 := Lib.hid hJ3
        have HK3 := Lib.hid hk3
        have HS := Lib.hid hS
        have hlk : (Instr.lookup 77 (.map (some hb)) (.agg #[.int .i64 x.proc, .int .u64 (x.ce : Int), .int .i64 x.cr, .int .i64 x.m.frm, .int .u32 (x.m.seq : Int)]) false).run Tryz.prog w3 = .ok (.bool ((get S (hadJ x)).getD false)) w3 := by
          have h := (show GMap hadV w3 hb (vals boolV S) from hJ3.part (List.mem_cons_of_mem _ List.mem_cons_self)).lookup (P := Tryz.prog) Tryz.underlying77 hadLawJ (z := .bool false) (by kernel_rfl) (hadJ x)
          rw [get_vals] at h
          refine h.trans ?_
          cases get S (hadJ x) <;> rfl
        rw [hS] at hlk
        have HC := Lib.hid (hJ3.br1 3 ((List.range j).any (hadAt l (hadJ x))))
        rw [← HH.out.2.2.2.2.1] at HC
        clear hJ2 hJ3 hk3 hS H2 hcw
        go_upto_region 6 with (fail)
        rw [← hw3, ← hKB]
        clear hw3 hKB e0 e1 e2 e3 e7 e8
        have HTW := Lib.hid (show t.twice l (j + 1) = (t.twice l j).br 3 ((List.range j).any (hadAt l (hadJ x))) from by rw [twice1_at HG.out.2.2.2.2.1, if_pos HK2.out])
        generalize (List.range j).any (hadAt l (hadJ x)) = bb at *
        go_wp2_with (first
          | (with_reducible refine wpList_load_row rfl 79 (.tmp 5) rfl KB rfl 79 #[.int .i64 x.proc, .int .u64 (x.ce : Int), .int .i64 x.cr, .int .i64 x.m.frm, .int .u32 (x.m.seq : Int)] (0, 0) _ HK3.out Tryz.underlying79 rfl (by kernel_rfl) ?_)
          | fail)
        clear hlk
        refine HC.out.mono ?_
        rintro e w4 ⟨rfl, hE⟩
        have hk4 : w4.heap[KB]? = some (.cells #[.int .i64 x.proc, .int .u64 (x.ce : Int), .int .i64 x.cr, .int .i64 x.m.frm, .int .u32 (x.m.seq : Int)] 79 (0, 0)) := hE.part List.mem_cons_self
        have hE2 := JB.drop (Q := [varPc KB #[.int .i64 x.proc, .int .u64 (x.ce : Int), .int .i64 x.cr, .int .i64 x.m.frm, .int .u32 (x.m.seq : Int)] 79 (by decide) (by decide)]) hE
        obtain ⟨w5, hrun, hg, hgr, hsz⟩ := (show GMap hadV w4 hb (vals boolV S) from hE2.part List.mem_cons_self).update (P := Tryz.prog) Tryz.underlying77 hadLawJ (hadJ x) (.bool true)
        rw [put_vals boolV] at hg
        have HE := Lib.hid (show JSn wB g o l R N M hb (j + 1) (t.twice l (j + 1)) w5 from ⟨put S (hadJ x) true, SeenI.put HS.out HG.out.2.2.2.2.1 HK2.out, by rw [HTW.out]; exact hE2.map hg hgr⟩)
        have hrun : (Instr.mapUpdate 77 (.map (some hb)) (.agg #[.int .i64 x.proc, .int .u64 (x.ce : Int), .int .i64 x.cr, .int .i64 x.m.frm, .int .u32 (x.m.seq : Int)]) (.bool true)).run Tryz.prog w4 = .ok () w5 := hrun
        have HK4 := Lib.hid hk4
        clear hE hE2 hk4 hg hgr hsz HC H3 HK3 HTW
        go_wp2_with (first
          | (with_reducible refine wpList_load_row rfl 79 (.tmp 5) rfl KB rfl 79 #[.int .i64 x.proc, .int .u64 (x.ce : Int), .int .i64 x.cr, .int .i64 x.m.frm, .int .u32 (x.m.seq : Int)] (0, 0) _ HK4.out Tryz.underlying79 rfl (by kernel_rfl) ?_)
          | fail)
        exact ⟨⟨j + 1, by have := HG.out.2.2.2.2.2; omega, by go_num, HE⟩, by have := HG.out.2.2.2.2.2; simp [intOf]; omega⟩
      · have d2 : (x.kind == 2) = false := by simpa using k2
        have HE := Lib.hid (show JSn wB g o l R N M hb (j + 1) (t.twice l (j + 1)) w2 from by
          obtain ⟨S, h1, h2⟩ := H2.out
          refine ⟨S, h1.other HG.out.2.2.2.2.1 k2, ?_⟩
          rw [twice1_at HG.out.2.2.2.2.1, if_neg k2]
          exact h2)
        clear k2 H2
        go_wp2_with fail
        exact ⟨⟨j + 1, by have := HG.out.2.2.2.2.2; omega, by go_num, HE⟩, by have := HG.out.2.2.2.2.2; simp [intOf]; omega⟩
    · have hd : decide ((j : Int) < (n : Int)) = false := by simpa using hlt
      have hd2 : decide (j < n) = false := by simpa using hlt
      have HF := Lib.hid (show JB wB g o l R N M (t.twice l n) wr from by
        obtain ⟨L, _, h2⟩ := HW.out
        rw [show n = j by omega]
        exact h2.drop (Q := [mapPc hadV hb (vals boolV L)]))
      clear HW H0
      obtain ⟨t2, ht2⟩ : ∃ t', t' = t.twice l n := ⟨_, rfl⟩
      rw [← ht2] at HF
      have HT2 := Lib.hid ht2
      clear ht2
      obtain ⟨ns, hns⟩ : ∃ k, k = M.stays.length := ⟨_, rfl⟩
      obtain ⟨sa, hsa⟩ : ∃ a, a = M.sa := ⟨_, rfl⟩
      obtain ⟨sc, hsc⟩ : ∃ a, a = M.sc := ⟨_, rfl⟩
      have c1 : wr.cell? ⟨TT, 1, none⟩ = some (.slice sa ns sc) := by
        rw [HH.out.2.2.2.2.1, HF.out.trace.2.2.2 ⟨wr, br wr⟩, hns, hsa, hsc]
      have hns9 : ns ≤ 5000 := by rw [hns]; exact Nat.le_trans HF.out.cnt HH.out.2.2.1
      have HNS := Lib.hid (And.intro hns hsa)
      clear hns hsa hsc
      go_wp2_with fail
      clear c1
      go_loopw [51] (fun i wr => ∃ k : Nat, k ≤ ns ∧ i = .int .i64 (k : Int) ∧ Hid (JB wB g o l R N M (t2.once l k) wr)) (fun i _ => ns - (intOf i).toNat)
      case atStart => exact ⟨0, by omega, rfl, HF⟩
      case round =>
        obtain ⟨k, hk, rfl, HW⟩ := hrel
        by_cases hkn : k < ns
        · have hq1 : decide ((k : Int) < (ns : Int)) = true := by rw [decide_eq_true_eq]; omega
          have hq2 : decide (k < ns) = true := by rw [decide_eq_true_eq]; omega
          have hq3 : (k : Int) < (ns : Int) := by omega
          have hkl : k < M.stays.length := by rw [← HNS.out.1]; exact hkn
          obtain ⟨b, hsb, hbl, hcell⟩ := HW.out.nth hkl
          obtain ⟨y, hy⟩ : ∃ y, y = M.stays[k] := ⟨_, rfl⟩
          have hym : y ∈ M.stays := hy ▸ List.getElem_mem hkl
          rw [← hy] at hcell
          have honce : t2.once l (k + 1) = (t2.once l k).keys l y.s.gots y.s.gots.length := by
            show (match t2.stays[k]? with
              | none => J.once l t2 k
              | some s => (J.once l t2 k).keys l s.gots s.gots.length) = _
            have h : t2.stays[k]? = some y.s := by rw [HF.out.stays, hy]; simp [hkl]
            rw [h]
          have hsa' : sa = some ⟨b, 0, none⟩ := HNS.out.2.trans hsb
          rw [hsa']
          obtain ⟨cb, hcb⟩ : ∃ b, b = wr.heap.size := ⟨_, rfl⟩
          obtain ⟨w2, hw2⟩ : ∃ w2, w2 = wr.alloc (.map #[] 0) := ⟨_, rfl⟩
          have hJ2 := JB.made intV intZ HW.out
          rw [← hw2, ← hcb] at hJ2
          have hst2 := hJ2.st hym
          have HY := Lib.hid (And.intro hym (And.intro honce hkn))
          have HJ2 := Lib.hid hJ2
          have hmm := @run_makeMap Tryz.prog
          unfold ptrV at hcell
          obtain ⟨yb, hyb⟩ : ∃ z, z = y.b := ⟨_, rfl⟩
          rw [← hyb] at hcell hst2
          obtain ⟨q, hq⟩ : ∃ q, q = y.s.gots.length := ⟨_, rfl⟩
          have g4 : w2.cell? ⟨yb, 4, none⟩ = some (.slice y.ga q y.gc) := by rw [hq]; exact cell_of_row _ _ 4 _ _ _ hst2
          have hq9 : q ≤ 5000 := by rw [hq]; exact Nat.le_trans (hJ2.xok hym).gl HH.out.2.2.1
          have HQ := Lib.hid (And.intro hq hyb)
          clear hsb hbl hkl hkn hy hym honce hsa' hJ2 hst2 hq hyb HW HF
          go_upto_region 13 with (fail)
          rw [← hw2, ← hcb]
          clear hw2 hcb hmm hcell
          go_wp2_with fail
          clear g4
          have H2 := Lib.hid (show JCt wB g o l R N M cb y.s.gots 0 ((t2.once l k).keys l y.s.gots 0) w2 from ⟨[], fun q => rfl, HJ2.out⟩)
          clear HJ2
          go_loopw [61] (fun i wr => ∃ e : Nat, e ≤ q ∧ i = .int .i64 (e : Int) ∧ Hid (JCt wB g o l R N M cb y.s.gots e ((t2.once l k).keys l y.s.gots e) wr)) (fun i _ => q - (intOf i).toNat)
          case atStart => exact ⟨0, by omega, rfl, H2⟩
          case round =>
            obtain ⟨e, he, rfl, HW⟩ := hrel
            by_cases heq : e < q
            · have hr1 : decide ((e : Int) < (q : Int)) = true := by rw [decide_eq_true_eq]; omega
              have hr2 : decide (e < q) = true := by rw [decide_eq_true_eq]; omega
              have hr3 : (e : Int) < (q : Int) := by omega
              obtain ⟨C, hC, hJ⟩ := HW.out
              have hel : e < y.s.gots.length := by rw [← HQ.out.1]; exact heq
              have hrd := hJ.gots HH.out.1 (by have := HH.out.2.2.1; omega) HY.out.1
              obtain ⟨hmr, g2, o2, hga, hg2, hrg⟩ := hrd.at_ e hel
              obtain ⟨p, hp⟩ : ∃ p, p = y.s.gots[e] := ⟨_, rfl⟩
              have hpe : y.s.gots[e]? = some p := by rw [hp]; exact List.getElem?_eq_getElem hel
              rw [← hp] at hmr hrg
              clear hp
              obtain ⟨cg, hcg⟩ : ∃ c, c = (gotC l p).toArray := ⟨_, rfl⟩
              have y1 : cg.size = 8 := by rw [hcg]; rfl
              have p1 : cg.all (·.oneCell') = true := by rw [hcg]; simp [gotC, msgA, Value.oneCell']
              have hc1 : cg.toList.toArray = cg := by simp
              replace hrg : wr.rangeAt g2 (o2 + e * 8) cg.toList := by rw [hcg]; exact hrg
              obtain ⟨X, hX⟩ : ∃ X, X = wr.heap.size := ⟨_, rfl⟩
              have hz := heap_alloc_new wr (.cells zGot 58)
              have hbz := ba (br wr) (.cells zGot 58)
              rw [← hX] at hz
              obtain ⟨w3, hw3⟩ : ∃ w3, w3 = (wr.alloc (.cells zGot 58)).setRow X cg := ⟨_, rfl⟩
              have hb3 : Below wr.heap.size wr w3 := by rw [hw3]; exact (kept_setRow' (wr.alloc (.cells zGot 58)) X cg).out hbz hbz.size (fun k hk' e => by omega)
              have hx3 : w3.heap[X]? = some (.cells cg 58 (0, 0)) := by rw [hw3]; exact setRow_heap _ _ _ _ _ _ hz
              have hJ3 := hJ.new (w' := w3) (varPc X cg 58 (by decide) (by decide)) hb3 hx3 (fun b e => by injection e with e; rw [← e, hX]; exact Nat.le_refl _)
              have HZ := Lib.hid (And.intro hz hX)
              have HG := Lib.hid (And.intro hrg (And.intro y1 (And.intro p1 (And.intro hcg (And.intro hel (And.intro heq hpe))))))
              have H3 := Lib.hid hJ3
              have HCI := Lib.hid hC
              rw [hga]
              clear hrd hmr hg2 hrg hcg y1 p1 hX hz hbz hb3 hx3 hJ3 hC hJ hpe hel heq HW H2
              unfold zGot at hw3 HZ
              go_upto_region 16 with (first
                | (with_reducible refine wpList_load_mid rfl 58 (.tmp 64) rfl g2 (o2 + e * 8) rfl cg.toList _ HG.out.1 Tryz.underlying58 rfl (by rw [Array.length_toList, HG.out.2.1]; kernel_rfl) ?_)
                | (refine wpList_store_row rfl 58 (.tmp 10) (.tmp 65) rfl X cg (by rw [HZ.out.2]; rfl) (by rw [← hc1]; rfl) 58 _ HZ.out.1 (by rw [HG.out.2.1]; kernel_rfl) (by rw [HG.out.2.1]; rfl) HG.out.2.2.1 ?_)
                | fail)
              rw [← hw3, ← HZ.out.2]
              clear hw3 hc1 HZ
              obtain ⟨x, hx⟩ : ∃ x, x = gotM l p := ⟨_, rfl⟩
              have hxc : cg.toList = gotC l p := by rw [HG.out.2.2.2.1]
              obtain ⟨tk, htk⟩ : ∃ tk, tk = (t2.once l k).keys l y.s.gots e := ⟨_, rfl⟩
              rw [← htk] at H3
              obtain ⟨RR, hRR⟩ : ∃ RR, RR = varPc X cg 58 (by decide) (by decide) :: mapPc intV cb (vals intZ C) :: R := ⟨_, rfl⟩
              have HRR := Lib.hid hRR
              rw [← hRR] at H3
              have HTK := Lib.hid (And.intro htk (And.intro hx hxc))
              clear hRR htk hxc hx
              simp only [Act.put]
              go_cut [] (fun wx => JB wB g o l RR N M (tk.br 3 (keysB l y.s.gots e x)) wx)
              case first =>
                --{
                as_aux_lemma =>
                have HC := Lib.hid (show ∀ W, Below w3.heap.size w3 W → ∀ b, Calls Tryz.prog 22 #[.pointer (some ⟨TT, 0, none⟩), .int .i64 3, .bool b] W fun e w' => e = .returned (.tuple #[]) ∧ JB wB g o l RR N M (tk.br 3 b) w' from fun W hW b => by
                  rw [HH.out.2.2.2.2.1]
                  exact (H3.out.below hW).br1 3 b)
                rcases Nat.eq_zero_or_pos e with h0 | h0
                · subst h0
                  have hkb : keysB l y.s.gots 0 x = false := by
                    unfold keysB
                    cases y.s.gots[0 - 1]? <;> simp
                  have HKB := Lib.hid hkb
                  clear hkb
                  refine wp_region_bel_tail 20 (by kernel_rfl) (by kernel_rfl) ?_
                  simp only [List.take_succ_cons, List.take_zero, List.drop_succ_cons, List.drop_zero]
                  repeat (go_big_quiet_step ((fail)))
                  refine wpQuiet_nil ?_
                  intro w4 hw4
                  have HC4 := Lib.hid (HC.out w4 (bel_out hw4) false)
                  clear hw4 HC
                  go_wp2_with fail
                  refine HC4.out.mono ?_
                  rintro e w5 ⟨rfl, hE⟩
                  have HE := Lib.hid hE
                  clear hE HC4
                  go_wp2_with fail
                  go_meet
                  rw [HKB.out]
                  exact HE.out
                · obtain ⟨e1, he1⟩ : ∃ e1, e1 = e - 1 := ⟨_, rfl⟩
                  have hrd := H3.out.gots HH.out.1 (by have := HH.out.2.2.1; omega) HY.out.1
                  have hel1 : e1 < y.s.gots.length := by have := HG.out.2.2.2.2.1; omega
                  obtain ⟨hmz, g2', o2', hga', hg2, hrg⟩ := hrd.at_ e1 hel1
                  obtain ⟨rfl, rfl⟩ : g2' = g2 ∧ o2' = o2 := by
                    injection hga'.symm.trans hga with h
                    injection h with h1 h2
                    exact ⟨h1, h2⟩
                  obtain ⟨z, hz⟩ : ∃ z, z = gotM l y.s.gots[e1] := ⟨_, rfl⟩
                  have hkb : keysB l y.s.gots e x = lessJ z x := by
                    unfold keysB
                    rw [← he1, List.getElem?_eq_getElem hel1, hz, decide_eq_true h0]
                    rfl
                  have HKB := Lib.hid hkb
                  obtain ⟨cz, hcz⟩ : ∃ cs, cs = msgA z := ⟨_, rfl⟩
                  obtain ⟨cm, hcm⟩ : ∃ cs, cs = msgA x := ⟨_, rfl⟩
                  have y1 : cz.size = 6 := by rw [hcz]; rfl
                  have y2 : cm.size = 6 := by rw [hcm]; rfl
                  have hst3 := H3.out.st HY.out.1
                  rw [← HQ.out.2] at hst3
                  have g4 := Bel.cell (show w3.cell? ⟨yb, 4, none⟩ = some (.slice (some ⟨g2', o2', none⟩) q y.gc) from by rw [HQ.out.1, ← hga']; exact cell_of_row _ _ 4 _ _ _ hst3) (Array.getElem?_eq_some_iff.1 hst3).1
                  have hx3 : w3.heap[X]? = some (.cells cg 58 (0, 0)) := by
                    have := H3.out.part (p := varPc X cg 58 (by decide) (by decide)) (by rw [HRR.out]; exact List.mem_cons_self)
                    exact this
                  have hsub : ∀ (p : Nat × Bool) (j : Nat) (u : Value), (msgA (gotM l p)).toList[j]? = some u → (gotC l p)[1 + j]? = some u := fun p j u hu => by
                    have hj : j < 6 := (List.getElem?_eq_some_iff.1 hu).1
                    rw [← hu]
                    unfold gotC gotM
                    rcases (by omega : j = 0 ∨ j = 1 ∨ j = 2 ∨ j = 3 ∨ j = 4 ∨ j = 5) with rfl | rfl | rfl | rfl | rfl | rfl <;> rfl
                  have HG1 := Lib.hid (Bel.range (show w3.rangeAt g2' (o2' + e1 * 8 + 1) cz.toList from fun j u hu => by
                    rw [hcz, hz] at hu
                    have := hrg (1 + j) u (hsub _ j u hu)
                    rwa [show o2' + e1 * 8 + (1 + j) = o2' + e1 * 8 + 1 + j by omega] at this) hg2)
                  have HG2 := Lib.hid (Bel.range (show w3.rangeAt X 1 cm.toList from range_of hx3 _ (fun j u hu => by
                    rw [hcm, HTK.out.2.1] at hu
                    have := hsub _ j u hu
                    rw [← HTK.out.2.2] at this
                    simpa using this)) (Array.getElem?_eq_some_iff.1 hx3).1)
                  have HOF1 := Lib.hid (fun W : World => kOf_any z W)
                  have HOF2 := Lib.hid (fun W : World => kOf_any x W)
                  rw [← hcz] at HOF1
                  rw [← hcm] at HOF2
                  have HM := Lib.hid (And.intro y1 y2)
                  have hd0 : decide ((0 : Int) < (e : Int)) = true := by simpa using h0
                  have hd0' : decide (0 < e) = true := by simpa using h0
                  have hjq : (e1 : Int) < (q : Int) := by have := HQ.out.1; omega
                  have hjj : IntKind.i64.wrap ((e : Int) - 1) = (e1 : Int) := by rw [IntWalk.i64_in _ (by omega)]; omega
                  clear hmz hga' hg2 hrg hz hcz hcm y1 y2 hst3 hx3 hsub hkb he1 hrd hel1 h0
                  refine wp_region_bel_tail 20 (by kernel_rfl) (by kernel_rfl) ?_
                  simp only [List.take_succ_cons, List.take_zero, List.drop_succ_cons, List.drop_zero]
                  repeat (first
                    | ((with_reducible refine wpQuiet_load_midW rfl 31 (.tmp 77) rfl g2' (o2' + e1 * 8 + 1) rfl cz.toList _ HG1.out Tryz.underlying31 rfl (by rw [Array.length_toList, HM.out.1]; kernel_rfl) ?_); simp only [Act.put, Array.toArray_toList, List.setIfInBounds_toArray, List.set_cons_zero, List.set_cons_succ])
                    | ((with_reducible refine wpQuiet_load_midW rfl 31 (.tmp 80) rfl X 1 rfl cm.toList _ HG2.out Tryz.underlying31 rfl (by rw [Array.length_toList, HM.out.2]; kernel_rfl) ?_); simp only [Act.put, Array.toArray_toList, List.setIfInBounds_toArray, List.set_cons_zero, List.set_cons_succ])
                    | go_big_quiet_step ((first | (go_at_call 24; first | (with_reducible exact bel_call (HOF1.out _)) | (with_reducible exact bel_call (HOF2.out _))) | (go_at_call 23; with_reducible exact bel_call (kCmp_any _ _ _ _ _)))))
                  refine wpQuiet_nil ?_
                  intro w4 hw4
                  have HC4 := Lib.hid (HC.out w4 (bel_out hw4) (lessJ z x))
                  unfold lessJ at HC4
                  clear hw4 HC hjj hjq
                  go_wp2_with fail
                  refine HC4.out.mono ?_
                  rintro e w5 ⟨rfl, hE⟩
                  have HE := Lib.hid hE
                  clear hE HC4
                  go_wp2_with fail
                  go_meet
                  rw [HKB.out]
                  exact HE.out
                --}
              case rest =>
              obtain ⟨wd, rfl⟩ : ∃ z, z = wc := ⟨_, rfl⟩
              obtain ⟨t1, ht1⟩ : ∃ t1, t1 = tk.br 3 (keysB l y.s.gots e x) := ⟨_, rfl⟩
              rw [← ht1] at hcut
              have HD := Lib.hid hcut
              have HT1 := Lib.hid ht1
              have hpl : p.1 < l.length := (hcut.xok HY.out.1).gots p (List.mem_of_getElem? HG.out.2.2.2.2.2.2)
              obtain ⟨xe, hxe⟩ : ∃ xe, l[p.1]? = some xe := ⟨_, List.getElem?_eq_getElem hpl⟩
              have hxm : x = xe.m := by
                rw [HTK.out.2.1]
                unfold gotM
                exact evMsg_at hxe
              have hpart : ∀ {tt : J} {W : World}, JB wB g o l RR N M tt W → W.heap[X]? = some (.cells cg 58 (0, 0)) := fun h => h.part (p := varPc X cg 58 (by decide) (by decide)) (by rw [HRR.out]; exact List.mem_cons_self)
              have hg5 : cg[5]? = some (.slice x.da x.ds.length x.dc) := by
                rw [← Array.getElem?_toList, HTK.out.2.2, HTK.out.2.1]
                rfl
              have hg1 : cg[1]? = some (.int .i64 x.frm) := by
                rw [← Array.getElem?_toList, HTK.out.2.2, HTK.out.2.1]
                rfl
              have x5 : wd.cell? ⟨X, 5, none⟩ = some (.slice x.da x.ds.length x.dc) := (cell_of_row _ _ 5 _ _ _ (hpart hcut)).trans hg5
              have hdl : x.ds.length ≤ 35184372087808 := by rw [hxm]; exact (HH.out.1.ok hxe).dl
              have HP := Lib.hid (And.intro (@hpart) (And.intro hg1 (And.intro hxe hxm)))
              obtain ⟨dl, hdl'⟩ : ∃ d, d = x.ds.length := ⟨_, rfl⟩
              rw [← hdl'] at x5 hdl
              have HDL := Lib.hid hdl'
              clear hcut ht1 hpl hxe hxm hpart hg5 hg1 hdl' H3
              go_wp2_with fail
              clear x5
              have HD0 := Lib.hid (show JB wB g o l RR N M (t1.deps l (y.s.gots.take e) x.ds 0) wd from HD.out)
              go_loopw [91] (fun i wr => ∃ d : Nat, d ≤ dl ∧ i = .int .i64 (d : Int) ∧ Hid (JB wB g o l RR N M (t1.deps l (y.s.gots.take e) x.ds d) wr)) (fun i _ => dl - (intOf i).toNat)
              case atStart => exact ⟨0, by omega, rfl, HD0⟩
              case round =>
                obtain ⟨d, hd, rfl, HW⟩ := hrel
                by_cases hdd : d < dl
                · have hs1 : decide ((d : Int) < (dl : Int)) = true := by rw [decide_eq_true_eq]; omega
                  have hs2 : decide (d < dl) = true := by rw [decide_eq_true_eq]; omega
                  have hs3 : (d : Int) < (dl : Int) := by omega
                  have hJ := HW.out
                  have hdx : d < x.ds.length := by rw [← HDL.out]; exact hdd
                  have hok := (HH.out.1.below hJ.bel).ok HP.out.2.2.1
                  obtain ⟨B, O, hda, hBl, hcell⟩ := (msgR_of hok).ds d (by rw [← HP.out.2.2.2]; exact hdx)
                  obtain ⟨v, hv⟩ : ∃ v, v = x.ds[d] := ⟨_, rfl⟩
                  have hvm : v ∈ xe.m.ds := by rw [hv, ← HP.out.2.2.2]; exact List.getElem_mem hdx
                  have hv4 := hok.ds v hvm
                  replace hcell : wr.cell? ⟨B, O + d, none⟩ = some (.int .u32 (v : Int)) := by
                    rw [hcell, hv]
                    congr 3
                    simp only [HP.out.2.2.2]
                  have hda' : x.da = some ⟨B, O, none⟩ := by rw [HP.out.2.2.2]; exact hda
                  have hwv : IntKind.i64.wrap (v : Int) = (v : Int) := IntWalk.i64_in _ (by omega)
                  have hlk : (Instr.lookup 80 (.map (some cb)) (.int .i64 (d : Int)) false).run Tryz.prog wr = .ok (.int .i64 (cntG l (y.s.gots.take e) (d : Int) : Int)) wr := by
                    have h := (show GMap intV wr cb (vals intZ C) from hJ.part (by rw [HRR.out]; exact List.mem_cons_of_mem _ List.mem_cons_self)).lookup (P := Tryz.prog) Tryz.underlying80 intLaw (z := .int .i64 0) (by kernel_rfl) (d : Int)
                    rw [get_vals] at h
                    refine h.trans ?_
                    rw [← HCI.out (d : Int)]
                    cases get C (d : Int) <;> rfl
                  have HC := Lib.hid (hJ.br1 4 (decide (cntG l (y.s.gots.take e) (d : Int) < v)))
                  have hdeps : t1.deps l (y.s.gots.take e) x.ds (d + 1) = (t1.deps l (y.s.gots.take e) x.ds d).br 4 (decide (cntG l (y.s.gots.take e) (d : Int) < v)) := by
                    show (t1.deps l (y.s.gots.take e) x.ds d).br 4 (decide ((cntG l (y.s.gots.take e) (d : Int) : Int) < ((x.ds.getD d 0 : Nat) : Int))) = _
                    rw [show x.ds.getD d 0 = v from by rw [hv]; simp [hdx]]
                    congr 1
                    rw [Bool.eq_iff_iff]
                    simp
                  rw [← hdeps, ← HH.out.2.2.2.2.1] at HC
                  rw [hda']
                  generalize cntG l (y.s.gots.take e) (d : Int) = cc at *
                  have HDD := Lib.hid hdd
                  clear hJ hdx hok hda hBl hv hvm hv4 hda' hdeps hdd HW HD0
                  go_wp2_with fail
                  refine HC.out.mono ?_
                  rintro e4 w4 ⟨rfl, hE⟩
                  have HE := Lib.hid hE
                  clear hE HC hlk hcell hwv
                  go_wp2_with fail
                  exact ⟨⟨d + 1, HDD.out, by go_num, HE⟩, by have := HDD.out; simp [intOf]; omega⟩
                · have hs1 : decide ((d : Int) < (dl : Int)) = false := by simpa using hdd
                  have hs2 : decide (d < dl) = false := by simpa using hdd
                  have hJ : JB wB g o l RR N M ((t2.once l k).keys l y.s.gots (e + 1)) wr := by
                    have hel := HG.out.2.2.2.2.1
                    have hpe : y.s.gots[e] = p := by
                      have h := HG.out.2.2.2.2.2.2
                      rw [List.getElem?_eq_getElem hel] at h
                      injection h
                    rw [keys_at hel, hpe, ← HTK.out.2.1, ← HTK.out.1, ← HT1.out, ← HDL.out, show dl = d by omega]
                    exact HW.out
                  have x1 : wr.cell? ⟨X, 1, none⟩ = some (.int .i64 x.frm) := (cell_of_row _ _ 1 _ _ _ (HP.out.1 hJ)).trans HP.out.2.1
                  have hJ2 := JB.drop (Q := [varPc X cg 58 (by decide) (by decide)]) (show JB wB g o l ([varPc X cg 58 (by decide) (by decide)] ++ (mapPc intV cb (vals intZ C) :: R)) N M ((t2.once l k).keys l y.s.gots (e + 1)) wr from by rw [HRR.out] at hJ; exact hJ)
                  have hgm : GMap intV wr cb (vals intZ C) := hJ2.part List.mem_cons_self
                  obtain ⟨cc, hcc⟩ : ∃ c, c = cntG l (y.s.gots.take e) x.frm := ⟨_, rfl⟩
                  have hlk : (Instr.lookup 80 (.map (some cb)) (.int .i64 x.frm) false).run Tryz.prog wr = .ok (.int .i64 (cc : Int)) wr := by
                    have h := hgm.lookup (P := Tryz.prog) Tryz.underlying80 intLaw (z := .int .i64 0) (by kernel_rfl) x.frm
                    rw [get_vals] at h
                    refine h.trans ?_
                    rw [hcc, ← HCI.out x.frm]
                    cases get C x.frm <;> rfl
                  have hcc9 : cc ≤ 5000 := by
                    have h1 := cntG_le l y.s.gots e x.frm
                    have h2 := HQ.out.1
                    have h3 := HG.out.2.2.2.2.1
                    omega
                  obtain ⟨w5, hrun, hg, hgr, hsz⟩ := hgm.update (P := Tryz.prog) Tryz.underlying80 intLaw x.frm (.int .i64 ((cc : Int) + 1))
                  have hg : GMap intV w5 cb (vals intZ (put C x.frm ((cc : Int) + 1))) := by rw [← put_vals intZ]; exact hg
                  have HE := Lib.hid (show JCt wB g o l R N M cb y.s.gots (e + 1) ((t2.once l k).keys l y.s.gots (e + 1)) w5 from by
                    refine ⟨_, ?_, hJ2.map hg hgr⟩
                    have hel := HG.out.2.2.2.2.1
                    have hpe : y.s.gots[e] = p := by
                      have h := HG.out.2.2.2.2.2.2
                      rw [List.getElem?_eq_getElem hel] at h
                      injection h
                    have h := CntI.put HCI.out hel
                    rw [hpe, ← HTK.out.2.1, HCI.out, ← hcc] at h
                    exact h)
                  have hrun : (Instr.mapUpdate 80 (.map (some cb)) (.int .i64 x.frm) (.int .i64 ((cc : Int) + 1))).run Tryz.prog wr = .ok () w5 := hrun
                  have hwc : IntKind.i64.wrap ((cc : Int) + 1) = (cc : Int) + 1 := IntWalk.i64_in _ (by omega)
                  clear hJ hJ2 hgm hcc hg hgr hsz HW HD0
                  go_wp2_with fail
                  exact ⟨⟨e + 1, by have := HG.out.2.2.2.2.2.1; omega, by go_num, HE⟩, by have := HG.out.2.2.2.2.2.1; simp [intOf]; omega⟩
            · have hr1 : decide ((e : Int) < (q : Int)) = false := by simpa using heq
              have hr2 : decide (e < q) = false := by simpa using heq
              have HE := Lib.hid (show JB wB g o l R N M (t2.once l (k + 1)) wr from by
                obtain ⟨C, _, h2⟩ := HW.out
                rw [HY.out.2.1, ← HQ.out.1, show q = e by omega]
                exact h2.drop (Q := [mapPc intV cb (vals intZ C)]))
              clear HW H2
              go_wp2_with fail
              exact ⟨⟨k + 1, by have := HY.out.2.2; omega, by go_num, HE⟩, by have := HY.out.2.2; simp [intOf]; omega⟩
        · have hq1 : decide ((k : Int) < (ns : Int)) = false := by simpa using hkn
          have hq2 : decide (k < ns) = false := by simpa using hkn
          have HE := Lib.hid (show JB wB g o l R N M (t2.once l ns) wr from by rw [show ns = k by omega]; exact HW.out)
          clear HW HF
          go_wp2_with fail
          go_end0
          exact ⟨rfl, by rw [← HT2.out, ← HNS.out.1]; exact HE.out⟩
end Go.Proofs.YtogagkgkmoppmaaGreatDoor
