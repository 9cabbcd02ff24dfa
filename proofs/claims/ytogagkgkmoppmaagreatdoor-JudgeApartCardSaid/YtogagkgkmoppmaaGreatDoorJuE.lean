/-
  The judge: an EvSend, EvDeliver or EvTrans.
  Conditions: those that each theorem names.
-/
import Derived.Test.YtogagkgkmoppmaaGreatDoorJuAZs
namespace Go.Proofs.YtogagkgkmoppmaaGreatDoor
set_option linter.unusedVariables false
set_option linter.unusedSimpArgs false
open Go.RowKit GM
theorem yieldsIf_buildJ {P : Program} {ops : Array Oper} {S : World → Prop} {o : Oper} {a : Act} (hw : Region.wanted o (yielded ops a.tmps) = true) (t : TypeId) (parts : Array (Nat × Operand)) (ho : o.op = .build t parts) (cells : Array Value)
    (hc : P.built t (parts.map fun (i, x) => (i, a.eval x)).toList = some cells) : YieldsIf P ops S o (.agg cells) a := .inl ⟨hw, fun w _ => by
  unfold execOp
  simp only [ho, Sem.run_bind, run_build w t _ cells hc, Result.andThen_ok]
  rfl⟩
theorem cell_lt {w : World} {p : Addr} {v : Value} (h : w.cell? p = some v) : p.block < w.heap.size := by
  rcases Nat.lt_or_ge p.block w.heap.size with g | g
  · exact g
  · unfold World.cell? at h
    rw [Array.getElem?_eq_none g] at h
    cases h
theorem JTo.brk {wB w : World} {g o n : Nat} {l : List Ev} {M : JM} {R : List Pc} (h : At wB (jparts g o l M ++ R) w) (hJ : JOk g o l n M) (r : Int) (b : Bool) :
    Calls Tryz.prog 22 #[.pointer (some ⟨M.h.T, 0, none⟩), .int .i64 r, .bool b] w fun e w' => e = .returned (.tuple #[]) ∧ JTo wB g o l R n M.h ((projJ M).br r b) w' :=
  (jbreaks_any h r b).mono fun e w' ⟨h1, h2⟩ => ⟨h1, _, h2, hJ.br r b, projJ_br M r b, (br_fix M r b).1⟩
theorem proj_at {M : JM} {k : Nat} (hk : k < M.stays.length) : (projJ M).stays[k]? = some M.stays[k].s := by simp [projJ, hk]
def trV (x : JX) (i : Nat) : JX := { x with s := { x.s with tr := some i } }
set_option maxRecDepth 100000 in
set_option maxHeartbeats 16000000 in
theorem inner_any {wB w : World} {g o n : Nat} {l : List Ev} {nm : Nat → List NameK} {M : JM} {R : List Pc} (h : At wB (jparts g o l M ++ R) w) (hT : Tr wB g o l nm) (hJ : JOk g o l n M) (hn : n ≤ 5000) (i : Nat) (x : Ev) (hx : l[i]? = some x) (lv : Bool) (s : Option Nat) (hs : ∀ k, s = some k → k < M.stays.length) :
    Calls Tryz.prog 19 #[.pointer (some ⟨M.h.T, 0, none⟩), .int .i64 (i : Int), .pointer (some ⟨g, o + i * 19, none⟩), .bool lv, sV M s] w fun e w' => e = .returned (.tuple #[]) ∧ JTo wB g o l R (n + 1) M.h ((projJ M).inner l i x lv s) w' := by
  have hTw := hT.below h.bel
  have e2 := hTw.cell hx 2 (v := .int .u64 (x.ce : Int)) rfl
  have e3 := hTw.cell hx 3 (v := .int .i64 x.cr) rfl
  by_cases hgood : ∃ k, ∃ hk : k < M.stays.length, s = some k ∧ lv = true ∧ M.stays[k].s.cf = conf x
  rotate_left
  · -- not in its configuration
    have hin : (projJ M).inner l i x lv s = (projJ M).br 1 true := by
      unfold J.inner
      cases s with
      | none => rfl
      | some k =>
        have hk := hs k rfl
        simp only [proj_at hk]
        rw [if_neg (fun hh => hgood ⟨k, hk, rfl, hh.1, hh.2⟩)]
    rw [hin]
    have HBR := Lib.hid (show ∀ w1, Below w.heap.size w w1 → Calls Tryz.prog 22 #[.pointer (some ⟨M.h.T, 0, none⟩), .int .i64 1, .bool true] w1 fun e w' => e = .returned (.tuple #[]) ∧ JTo wB g o l R (n + 1) M.h ((projJ M).br 1 true) w' from fun w1 hb => JTo.brk (h.below hb) (hJ.more (Nat.le_succ n)) 1 true)
    obtain ⟨TT, hTT⟩ : ∃ T, T = M.h.T := ⟨_, rfl⟩
    rw [← hTT]
    rw [← hTT] at HBR
    cases s with
    | none =>
      show Calls Tryz.prog 19 #[.pointer (some ⟨TT, 0, none⟩), .int .i64 (i : Int), .pointer (some ⟨g, o + i * 19, none⟩), .bool lv, .pointer none] w _
      clear h hT hJ hn hx hs hgood hin hTw hTT
      cases lv
      · go_enter Tryz.func19, Tryz.ntmps19
        go_upto_region 0 with (fail)
        refine wp_region_bel (by kernel_rfl) (by kernel_rfl) ?_
        repeat (go_big_quiet_step ((fail)))
        refine wpQuiet_nil ?_
        intro w1 hw1
        have hb1 := bel_out hw1
        go_wp2_with fail
        refine (HBR.out w1 hb1).mono ?_
        rintro e w2 ⟨rfl, hE⟩
        have HE := Lib.hid hE
        clear hE hw1 hb1 HBR e2 e3
        go_wp2_with fail
        refine bodyPost_ret (results_none rfl _ _ _) rfl ?_
        exact ⟨rfl, HE.out⟩
      · go_enter Tryz.func19, Tryz.ntmps19
        go_upto_region 0 with (fail)
        refine wp_region_bel (by kernel_rfl) (by kernel_rfl) ?_
        repeat (go_big_quiet_step ((fail)))
        refine wpQuiet_nil ?_
        intro w1 hw1
        have hb1 := bel_out hw1
        go_wp2_with fail
        refine (HBR.out w1 hb1).mono ?_
        rintro e w2 ⟨rfl, hE⟩
        have HE := Lib.hid hE
        clear hE hw1 hb1 HBR e2 e3
        go_wp2_with fail
        refine bodyPost_ret (results_none rfl _ _ _) rfl ?_
        exact ⟨rfl, HE.out⟩
    | some k =>
      have hk := hs k rfl
      show Calls Tryz.prog 19 #[.pointer (some ⟨TT, 0, none⟩), .int .i64 (i : Int), .pointer (some ⟨g, o + i * 19, none⟩), .bool lv, nthJ M.stays k] w _
      rw [nthJ_at hk]
      obtain ⟨y, hy⟩ : ∃ y, y = M.stays[k] := ⟨_, rfl⟩
      have hym : y ∈ M.stays := hy ▸ List.getElem_mem hk
      rw [← hy]
      have c1 := jcell h.own hym 1 (v := .int .u64 y.s.cf.1) rfl
      have c2 := jcell h.own hym 2 (v := .int .i64 y.s.cf.2) rfl
      have hne : lv = true → (y.s.cf.1 == (x.ce : Int) && y.s.cf.2 == x.cr) = false := fun hl => by
        rw [Bool.eq_false_iff]
        intro hh
        simp only [Bool.and_eq_true, beq_iff_eq] at hh
        exact hgood ⟨k, hk, rfl, hl, by rw [← hy]; exact Prod.ext hh.1 hh.2⟩
      unfold ptrV
      obtain ⟨yb, hyb⟩ : ∃ b, b = y.b := ⟨_, rfl⟩
      rw [← hyb] at c1 c2 ⊢
      have hcn := fun W : World => confNeq W y.s.cf.1 y.s.cf.2 (x.ce : Int) x.cr
      generalize y.s.cf.1 = f1 at *
      generalize y.s.cf.2 = f2 at *
      clear h hT hJ hn hx hs hgood hin hTw hTT hy hyb hym
      cases lv
      · clear hne
        go_enter Tryz.func19, Tryz.ntmps19
        go_upto_region 0 with (fail)
        refine wp_region_bel (by kernel_rfl) (by kernel_rfl) ?_
        repeat (go_big_quiet_step ((fail)))
        refine wpQuiet_nil ?_
        intro w1 hw1
        have hb1 := bel_out hw1
        go_wp2_with fail
        refine (HBR.out w1 hb1).mono ?_
        rintro e w2 ⟨rfl, hE⟩
        have HE := Lib.hid hE
        clear hE hw1 hb1 HBR e2 e3
        go_wp2_with fail
        refine bodyPost_ret (results_none rfl _ _ _) rfl ?_
        exact ⟨rfl, HE.out⟩
      · have hne := hne rfl
        rw [hne] at hcn
        simp only [Bool.not_false] at hcn
        clear hne
        go_enter Tryz.func19, Tryz.ntmps19
        go_upto_region 0 with (fail)
        refine wp_region_bel (by kernel_rfl) (by kernel_rfl) ?_
        repeat (go_big_quiet_step ((fail)))
        refine wpQuiet_nil ?_
        intro w1 hw1
        have hb1 := bel_out hw1
        go_wp2_with fail
        refine (HBR.out w1 hb1).mono ?_
        rintro e w2 ⟨rfl, hE⟩
        have HE := Lib.hid hE
        clear hE hw1 hb1 HBR e2 e3
        go_wp2_with fail
        refine bodyPost_ret (results_none rfl _ _ _) rfl ?_
        exact ⟨rfl, HE.out⟩
  -- in its configuration
  obtain ⟨k, hk, rfl, rfl, hcf⟩ := hgood
  have hin : (projJ M).inner l i x true (some k) = (projJ M).innerAt l i x k M.stays[k].s := by
    unfold J.inner
    simp only [proj_at hk]
    rw [if_pos ⟨trivial, hcf⟩]
  rw [hin]
  show Calls Tryz.prog 19 #[.pointer (some ⟨M.h.T, 0, none⟩), .int .i64 (i : Int), .pointer (some ⟨g, o + i * 19, none⟩), .bool true, nthJ M.stays k] w _
  rw [nthJ_at hk]
  obtain ⟨y, hy⟩ : ∃ y, y = M.stays[k] := ⟨_, rfl⟩
  have hym : y ∈ M.stays := hy ▸ List.getElem_mem hk
  rw [← hy] at hcf ⊢
  have c1 : ∀ z : Bel w, z.val.cell? ⟨y.b, 1, none⟩ = some (.int .u64 (x.ce : Int)) := jcell h.own hym 1 (by show some (Value.int .u64 y.s.cf.1) = _; rw [hcf]; rfl)
  have c2 : ∀ z : Bel w, z.val.cell? ⟨y.b, 2, none⟩ = some (.int .i64 x.cr) := jcell h.own hym 2 (by show some (Value.int .i64 y.s.cf.2) = _; rw [hcf]; rfl)
  have hcn : ∀ W : World, (Go.binOp .neq 27 (.agg #[.int .u64 (x.ce : Int), .int .i64 x.cr]) (.agg #[.int .u64 (x.ce : Int), .int .i64 x.cr])).run Tryz.prog W = .ok (.bool false) W := fun W => by
    have := confNeq W (x.ce : Int) x.cr (x.ce : Int) x.cr
    simpa using this
  have HH := Lib.hid (And.intro h (And.intro hT (And.intro hJ (And.intro hn (And.intro hx (And.intro hy hym))))))
  obtain ⟨TT, hTT⟩ : ∃ T, T = M.h.T := ⟨_, rfl⟩
  have HTT := Lib.hid hTT
  unfold ptrV
  obtain ⟨tE, htE⟩ : ∃ t, t = (projJ M).innerAt l i x k y.s := ⟨_, rfl⟩
  rw [← htE]
  have HTE := Lib.hid htE
  obtain ⟨yb, hyb⟩ : ∃ b, b = y.b := ⟨_, rfl⟩
  have HYB := Lib.hid hyb
  rw [← hTT]
  rw [← hyb] at c1 c2 ⊢
  have HK := Lib.hid hk
  clear h hT hJ hn hx hy hym hTT hyb hin hTw hcf hs htE
  go_enter Tryz.func19, Tryz.ntmps19
  go_upto_region 0 with (fail)
  refine wp_region_bel (by kernel_rfl) (by kernel_rfl) ?_
  repeat (go_big_quiet_step ((fail)))
  refine wpQuiet_nil ?_
  intro w1 hw1
  have h1 := HH.out.1.below (bel_out hw1)
  have hT1 := HH.out.2.1.below h1.bel
  have e0 : w1.cell? ⟨g, o + i * 19, none⟩ = some (.int .i64 x.kind) := hT1.cell HH.out.2.2.2.2.1 0 (v := .int .i64 x.kind) rfl ⟨w1, br w1⟩
  have c5 := jcell h1.own HH.out.2.2.2.2.2.2 5 (v := evP g o y.s.tr) rfl ⟨w1, br w1⟩
  have f5 : w1.frozen? ⟨yb, 5, none⟩ = false := by rw [HYB.out]; exact frozen_of_row _ _ _ _ _ (jown_st h1.own HH.out.2.2.2.2.2.2)
  dsimp only at c5
  rw [← HYB.out] at c5
  have H1 := Lib.hid h1
  have HT1 := Lib.hid hT1
  clear hw1 h1 hT1 c1 c2 hcn e2 e3
  obtain ⟨kd, hkd⟩ : ∃ kd, kd = x.kind := ⟨_, rfl⟩
  have hIN : tE = if kd = 1 then (projJ M).br 1 y.s.tr.isSome
      else if kd = 4 then ((projJ M).br 1 y.s.tr.isSome).setS k { y.s with tr := some i }
      else if kd = 2 then ((projJ M).br 2 (!decide (next x = newOf l y.s))).setS k { y.s with gots := y.s.gots ++ [(i, y.s.tr.isSome)] }
      else projJ M := by rw [HTE.out, hkd]; rfl
  rw [← hkd] at e0
  have HKD := Lib.hid hkd
  clear hkd
  have hil : i < l.length := (List.getElem?_eq_some_iff.1 HH.out.2.2.2.2.1).1
  have HIL := Lib.hid hil
  clear hil
  have HBR := Lib.hid (show ∀ (r : Int) (b : Bool) w2, Below w1.heap.size w1 w2 → Calls Tryz.prog 22 #[.pointer (some ⟨TT, 0, none⟩), .int .i64 r, .bool b] w2 fun e w' => e = .returned (.tuple #[]) ∧ At wB (jparts g o l (M.br r b) ++ R) w' from fun r b w2 hb => by rw [HTT.out]; exact jbreaks_any (H1.out.below hb) r b)
  by_cases k1 : kd = 1
  · subst k1
    rw [if_pos rfl] at hIN
    have hE : ∀ b w', b = y.s.tr.isSome → At wB (jparts g o l (M.br 1 b) ++ R) w' → JTo wB g o l R (n + 1) M.h tE w' := fun b w' hb ha => by rw [hIN, ← hb]; exact ⟨_, ha, (HH.out.2.2.1.more (Nat.le_succ n)).br 1 b, projJ_br M 1 b, (br_fix M 1 b).1⟩
    have HE := Lib.hid hE
    clear hE f5
    cases htr : y.s.tr with
    | none =>
      rw [htr] at c5
      replace c5 : w1.cell? ⟨yb, 5, none⟩ = some (.pointer none) := c5
      go_wp2_with fail
      refine (HBR.out 1 false w1 (br w1)).mono ?_
      rintro e w2 ⟨rfl, ha⟩
      have HE := Lib.hid (HE.out _ _ (by rw [htr]; rfl) ha)
      clear ha HBR c5 e0 htr
      go_wp2_with fail
      go_end0
      exact ⟨rfl, HE.out⟩
    | some q =>
      rw [htr] at c5
      replace c5 : w1.cell? ⟨yb, 5, none⟩ = some (.pointer (some ⟨g, o + q * 19, none⟩)) := c5
      go_wp2_with fail
      refine (HBR.out 1 true w1 (br w1)).mono ?_
      rintro e w2 ⟨rfl, ha⟩
      have HE := Lib.hid (HE.out _ _ (by rw [htr]; rfl) ha)
      clear ha HBR c5 e0 htr
      go_wp2_with fail
      go_end0
      exact ⟨rfl, HE.out⟩
  have d1 : (kd == 1) = false := by simpa using k1
  rw [if_neg k1] at hIN
  by_cases k4 : kd = 4
  · subst k4
    rw [if_pos rfl] at hIN
    have hE : ∀ b w', b = y.s.tr.isSome → At wB (jparts g o l (M.br 1 b) ++ R) w' → JTo wB g o l R (n + 1) M.h tE (w'.setCell ⟨yb, 5, none⟩ (.pointer (some ⟨g, o + i * 19, none⟩))) ∧ w'.cell? ⟨yb, 5, none⟩ = some (evP g o y.s.tr) ∧ w'.frozen? ⟨yb, 5, none⟩ = false := fun b w' hb ha => by
      rw [hIN, ← hb]
      obtain ⟨e1, e2, _⟩ := br_fix M 1 b
      have hk' : k < (M.br 1 b).stays.length := by rw [e2]; exact HK.out
      have hyk : (M.br 1 b).stays[k] = y := by
        have : (M.br 1 b).stays[k] = M.stays[k]'HK.out := by simp only [e2]
        rw [this, ← HH.out.2.2.2.2.2.1]
      have hym : y ∈ (M.br 1 b).stays := by rw [e2]; exact HH.out.2.2.2.2.2.2
      have hst := jown_st ha.own hym
      rw [HYB.out]
      refine ⟨⟨(M.br 1 b).setS k (trV y i), jown_cell ha hk' (by rw [hyk]; rfl) (by rw [hyk]; rfl) (by rw [hyk]; rfl) (keptS w' ⟨y.b, 5, none⟩ _) ?_, ((HH.out.2.2.1.more (Nat.le_succ n)).br 1 b).setS hk' (by rw [hyk]; rfl) ?_, ?_, e1⟩, (cell_of_row _ _ 5 _ _ _ hst).trans rfl, frozen_of_row _ _ _ _ _ hst⟩
      · exact (setCell_block hst 5 _).trans rfl
      · have hx := ((HH.out.2.2.1.more (Nat.le_succ n)).br 1 b).st y hym
        exact ⟨hx.bf, fun e he => by injection he with he; rw [← he]; exact HIL.out, hx.nx, hx.vw, hx.rd, hx.gots, hx.ups, hx.gl, hx.ul⟩
      · rw [projJ_setS, projJ_br]
        rfl
    have HE := Lib.hid hE
    clear hE f5
    cases htr : y.s.tr with
    | none =>
      rw [htr] at c5
      replace c5 : w1.cell? ⟨yb, 5, none⟩ = some (.pointer none) := c5
      go_wp2_with fail
      refine (HBR.out 1 false w1 (br w1)).mono ?_
      rintro e w2 ⟨rfl, ha⟩
      obtain ⟨q1, q2, q3⟩ := HE.out _ _ (by rw [htr]; rfl) ha
      have HE := Lib.hid q1
      clear ha HBR c5 e0 q1 htr
      go_wp2_with fail
      go_end0
      exact ⟨rfl, HE.out⟩
    | some q =>
      rw [htr] at c5
      replace c5 : w1.cell? ⟨yb, 5, none⟩ = some (.pointer (some ⟨g, o + q * 19, none⟩)) := c5
      go_wp2_with fail
      refine (HBR.out 1 true w1 (br w1)).mono ?_
      rintro e w2 ⟨rfl, ha⟩
      obtain ⟨q1, q2, q3⟩ := HE.out _ _ (by rw [htr]; rfl) ha
      have HE := Lib.hid q1
      clear ha HBR c5 e0 q1 htr
      go_wp2_with fail
      go_end0
      exact ⟨rfl, HE.out⟩
  have d4 : (kd == 4) = false := by simpa using k4
  rw [if_neg k4] at hIN
  by_cases k2 : kd = 2
  rotate_left
  · have d2 : (kd == 2) = false := by simpa using k2
    rw [if_neg k2] at hIN
    have HE := Lib.hid (show JTo wB g o l R (n + 1) M.h tE w1 from by rw [hIN]; exact ⟨M, H1.out, HH.out.2.2.1.more (Nat.le_succ n), rfl, rfl⟩)
    clear k1 k4 k2
    go_wp2_with fail
    go_end0
    exact ⟨rfl, HE.out⟩
  subst k2
  rw [if_pos rfl] at hIN
  clear k1 k4
  obtain ⟨cfn, hcfn⟩ : ∃ c, c = newOf l y.s := ⟨_, rfl⟩
  obtain ⟨n1, n2⟩ := cfn
  have HCF := Lib.hid hcfn
  clear f5
  have hbz := ba (br w1) (.cells #[.int .u64 0, .int .i64 0] 27)
  have hxz := heap_alloc_new w1 (.cells #[.int .u64 0, .int .i64 0] 27)
  obtain ⟨N, hN⟩ : ∃ N, N = w1.heap.size := ⟨_, rfl⟩
  obtain ⟨w2, hw2⟩ : ∃ w2, w2 = w1.alloc (.cells #[.int .u64 0, .int .i64 0] 27) := ⟨_, rfl⟩
  rw [← hw2, ← hN] at hxz
  rw [← hw2] at hbz
  obtain ⟨tq, htq⟩ : ∃ q, q = y.s.tr := ⟨_, rfl⟩
  rw [← htq] at c5
  cases tq with
  | none =>
    replace c5 : w1.cell? ⟨yb, 5, none⟩ = some (.pointer none) := c5
    have hz : n1 = 0 ∧ n2 = 0 := by
      unfold newOf at hcfn
      rw [← htq] at hcfn
      injection hcfn with e1 e2
      exact ⟨e1, e2⟩
    have c5b : w2.cell? ⟨yb, 5, none⟩ = some (.pointer none) := (hbz.cell (p := ⟨yb, 5, none⟩) (cell_lt c5)).trans c5
    have H3 := Lib.hid (show w2.heap[N]? = some (.cells #[.int .u64 n1, .int .i64 n2] 27 (0, 0)) ∧ Below w1.heap.size w1 w2 from by rw [hz.1, hz.2]; exact ⟨hxz, hbz⟩)
    have HW2 := Lib.hid (And.intro hw2 hN)
    have HTQ := Lib.hid htq
    clear hcfn hxz hbz hw2 hN htq c5 hz
    go_upto_region 10 with (fail)
    rw [← HW2.out.1, ← HW2.out.2]
    clear HW2
    go_upto_region 12 with (fail)
    obtain ⟨w3, hw3⟩ : ∃ w3, w3 = w2 := ⟨_, rfl⟩
    rw [← hw3]
    rw [← hw3] at H3
    clear hw3 c5b
    have h3 := H1.out.below H3.out.2
    have hT3 := HT1.out.below H3.out.2
    have g4 := hT3.cell HH.out.2.2.2.2.1 4 (v := .int .u64 (x.ne : Int)) rfl
    have g5 := hT3.cell HH.out.2.2.2.2.1 5 (v := .int .i64 x.nr) rfl
    have m0 : ∀ z : Bel w3, z.val.cell? ⟨N, 0, none⟩ = some (.int .u64 n1) := Bel.cell (cell_of_row _ _ 0 _ _ _ H3.out.1) (Array.getElem?_eq_some_iff.1 H3.out.1).1
    have m1 : ∀ z : Bel w3, z.val.cell? ⟨N, 1, none⟩ = some (.int .i64 n2) := Bel.cell (cell_of_row _ _ 1 _ _ _ H3.out.1) (Array.getElem?_eq_some_iff.1 H3.out.1).1
    obtain ⟨bq, hbq⟩ : ∃ b, b = !((x.ne : Int) == n1 && x.nr == n2) := ⟨_, rfl⟩
    have hcn : ∀ W : World, (Go.binOp .neq 27 (.agg #[.int .u64 (x.ne : Int), .int .i64 x.nr]) (.agg #[.int .u64 n1, .int .i64 n2])).run Tryz.prog W = .ok (.bool bq) W := fun W => by rw [hbq]; exact confNeq W (x.ne : Int) x.nr n1 n2
    have hbq2 : bq = !decide (next x = newOf l y.s) := by
      rw [hbq, ← HCF.out]
      congr 1
      rw [Bool.eq_iff_iff]
      simp [next, Prod.ext_iff]
    have HBQ := Lib.hid hbq2
    have HB3 := Lib.hid (show ∀ w4, Below w3.heap.size w3 w4 → Calls Tryz.prog 22 #[.pointer (some ⟨TT, 0, none⟩), .int .i64 2, .bool bq] w4 fun e w' => e = .returned (.tuple #[]) ∧ At wB (jparts g o l (M.br 2 bq) ++ R) w' from fun w4 hb => by rw [HTT.out]; exact jbreaks_any (h3.below hb) 2 bq)
    clear h3 hT3 hbq hbq2
    refine wp_region_bel_tail 7 (by kernel_rfl) (by kernel_rfl) ?_
    simp only [List.take_succ_cons, List.take_zero, List.drop_succ_cons, List.drop_zero]
    repeat (go_big_quiet_step ((fail)))
    refine wpQuiet_nil ?_
    intro w4 hw4
    have hb4 := bel_out hw4
    clear g4 g5 m0 m1 hcn
    go_wp2_with fail
    refine (HB3.out w4 hb4).mono ?_
    rintro e w5 ⟨rfl, h5⟩
    obtain ⟨e1, e2', _⟩ := br_fix M 2 bq
    obtain ⟨M5, hM5⟩ : ∃ M5, M5 = M.br 2 bq := ⟨_, rfl⟩
    rw [← hM5] at h5 e1 e2'
    have hk5 : k < M5.stays.length := by rw [e2']; exact HK.out
    have hy5 : M5.stays[k] = y := by
      have : M5.stays[k] = M.stays[k]'HK.out := by simp only [e2']
      rw [this, ← HH.out.2.2.2.2.2.1]
    have hym5 : y ∈ M5.stays := by rw [e2']; exact HH.out.2.2.2.2.2.2
    have hT5 := HH.out.2.1.below h5.bel
    have H5 := Lib.hid (And.intro h5 (And.intro hk5 (And.intro hy5 (And.intro hym5 (And.intro hT5 (And.intro e1 hM5))))))
    have HSS := Lib.hid (show ∀ w', Kept (fun b => (sGots l y).blk = some b) w5 w' → (w'.cell? ⟨yb, 4, none⟩ = some (.slice y.ga y.s.gots.length y.gc) ∧ w'.cell? ⟨yb, 5, none⟩ = some (.pointer none)) ∧ w'.rangeAt g (o + i * 19 + 7) (msgA x.m).toList from fun w' hk => by
      have hst := jown_st h5.own hym5
      have hg2 := hk.keep hst (fun e => by
        obtain ⟨c, fz, hc⟩ := Lib.ownsRow_kind (jown_gots h5.own hym5) y.b e
        rw [hst] at hc
        injection hc with hc
        injection hc with _ hc _
        exact absurd hc (by decide))
      rw [HYB.out]
      refine ⟨⟨(cell_of_row _ _ 4 _ _ _ hg2).trans rfl, (cell_of_row _ _ 5 _ _ _ hg2).trans (by show some (evP g o y.s.tr) = _; rw [← HTQ.out]; rfl)⟩, fun j u hu => ?_⟩
      have hgB : g < wB.heap.size := HH.out.2.1.lt HIL.out
      refine (hk.cell (p := ⟨g, o + i * 19 + 7 + j, none⟩) (Nat.lt_of_lt_of_le hgB h5.bel.size) (fun e => ?_)).trans (hT5.msg HH.out.2.2.2.2.1 j u hu)
      have := h5.own.base (sGots l y) (List.mem_append_left _ (by simp only [jparts, List.mem_cons, List.mem_flatMap]; exact .inr (.inr (.inr (.inr (.inr ⟨y, hym5, by simp [sP]⟩)))))) g e
      omega)
    clear h5 e1 e2' hM5 hy5 hym5 hT5 hb4 hw4 HB3
    go_upto_region 13 with (fail)
    have hk0 : Kept (fun b => (sGots l y).blk = some b) w5 w5.drew := (Kept.refl _ _).drew
    refine wp_region_mask (fun w' => (w'.cell? ⟨yb, 4, none⟩ = some (.slice y.ga y.s.gots.length y.gc) ∧ w'.cell? ⟨yb, 5, none⟩ = some (.pointer none)) ∧ w'.rangeAt g (o + i * 19 + 7) (msgA x.m).toList) 20 5 [true, true, true, true, true, true, true, true, true, true, true, true, true, true, true, true, false, false, false, false, false] #[true, true, true, true, true, true, true, true, true, true, true, true, true, true, true, true, false, false, false, false, false] (by kernel_rfl) (by kernel_rfl) (by kernel_rfl) (HSS.out _ hk0) ?_
    have HK0 := Lib.hid hk0
    have HB0 := Lib.hid (show Below w5.heap.size w5 w5.drew from (br w5).drew)
    clear hk0
    generalize w5.drew = w6 at *
    obtain ⟨i0, hi, hz0, hz1, hz2⟩ := info_parts info58
    have HI := Lib.hid (And.intro hi (And.intro hz0 (And.intro hz1 hz2)))
    clear hi hz0 hz1 hz2
    iterate 9
      refine wpMask_take _ (Or.inl ⟨by rfl, fun w' hS => by obtain ⟨⟨h1, h2⟩, h3⟩ := hS; clear h3; go_simp; try with_reducible rfl⟩) ?_
      simp only [Act.put, List.getElem_toArray, List.getElem_cons_succ, List.getElem_cons_zero, List.setIfInBounds_toArray, List.set_cons_zero, List.set_cons_succ]
    refine wpMask_take _ (yieldsIf_load_mid (by rfl) 31 (.tmp 87) rfl g (o + i * 19 + 7) rfl (msgA x.m).toList _ (fun w' hS => hS.2) Tryz.underlying31 rfl (by kernel_rfl)) ?_
    simp only [Act.put, List.getElem_toArray, List.getElem_cons_succ, List.getElem_cons_zero, List.setIfInBounds_toArray, List.set_cons_zero, List.set_cons_succ]
    iterate 4
      refine wpMask_take _ (Or.inl ⟨by rfl, fun w' hS => by obtain ⟨⟨h1, h2⟩, h3⟩ := hS; clear h3; go_simp; try with_reducible rfl⟩) ?_
      simp only [Act.put, List.getElem_toArray, List.getElem_cons_succ, List.getElem_cons_zero, List.setIfInBounds_toArray, List.set_cons_zero, List.set_cons_succ]
    refine wpMask_take (.bool false) (Or.inl ⟨by rfl, fun w' hS => by clear hS; go_simp; try with_reducible rfl⟩) ?_
    simp only [Act.put, List.getElem_toArray, List.getElem_cons_succ, List.getElem_cons_zero, List.setIfInBounds_toArray, List.set_cons_zero, List.set_cons_succ]
    obtain ⟨GC, hGC⟩ : ∃ c, c = gotC l (i, false) := ⟨_, rfl⟩
    have HIX := Lib.hid (show GC.length = 8 ∧ ∀ u ∈ GC, u.oneCell' = true from by rw [hGC]; exact ⟨gotC_len l _, gotC_one l _⟩)
    have hbl : Tryz.prog.built 58 [(0, .int .i64 (i : Int)), (1, .agg (msgA x.m).toList.toArray), (2, .bool false)] = some GC.toArray := by
      rw [hGC, show gotC l (i, false) = Value.int .i64 (i : Int) :: ((msgA x.m).toList ++ [.bool false]) from by unfold gotC; rw [evMsg_at HH.out.2.2.2.2.1]]
      exact bldG (i : Int) x.m false
    obtain ⟨MC, hMC⟩ : ∃ c, c = (msgA x.m).toList.toArray := ⟨_, rfl⟩
    rw [← hMC] at hbl ⊢
    have HGC := Lib.hid hGC
    have HBL := Lib.hid hbl
    clear hGC hbl hMC
    refine wpMask_take _ (yieldsIf_buildJ (by rfl) 58 #[(0, .tmp 84), (1, .tmp 88), (2, .tmp 93)] rfl GC.toArray (by simp only [List.map_toArray, List.map_cons, List.map_nil]; exact HBL.out)) ?_
    simp only [Act.put, List.getElem_toArray, List.getElem_cons_succ, List.getElem_cons_zero, List.setIfInBounds_toArray, List.set_cons_zero, List.set_cons_succ]
    iterate 5 refine wpMask_skip ?_
    refine wpMask_nil ?_
    refine wpAnyS_ready (rs := [16]) (by kernel_rfl) (by simp) ?_
    refine AllReadyS.cons rfl (fun T hT => ?_) AllReadyS.nil
    refine step_buildSlice_row rfl 53 (.tmp 94) rfl 58 i0 _ Tryz.underlying53 HI.out.1 HI.out.2.1 GC.toArray rfl (by rw [HI.out.2.2.1]; simp [HIX.out.1]) (by simp [HIX.out.1]) (by simp [HIX.out.1]) ?_
    have H8 := Lib.hid (HK0.out.alloc (.cells GC.toArray 58))
    refine hT.out _ _ (fun _ => HSS.out _ H8.out) ?_
    clear hT T
    simp only [Act.put, List.getElem_toArray, List.getElem_cons_succ, List.getElem_cons_zero, List.setIfInBounds_toArray, List.set_cons_zero, List.set_cons_succ]
    have hown8 := Lib.hid (ownOne w6 0 58 GC.toArray 8 (by simpa using HIX.out.1) (Nat.zero_le _))
    have hbW := ba HB0.out (.cells GC.toArray 58)
    have hr8 := Lib.hid (jown_gots ((H5.out.1.below hbW).own) H5.out.2.2.2.1)
    have HBW := Lib.hid hbW
    clear hbW
    generalize w6.alloc (.cells GC.toArray 58) = w8 at *
    refine wpAnyS_ready (rs := [17]) (by kernel_rfl) (by simp) ?_
    refine AllReadyS.cons rfl (fun T hT => ?_) AllReadyS.nil
    have hgl := (HH.out.2.2.1.st y HH.out.2.2.2.2.2.2).gl
    have hn5 := HH.out.2.2.2.1
    refine step_append_any _ rfl (.tmp 83) (.tmp 95) 53 rfl 0 58 i0 _ 8 88 Tryz.underlying53 HI.out.1 HI.out.2.1 HI.out.2.2.1 HI.out.2.2.2 rfl (by decide) _ y.s.gots.length (gotsV l y.s.gots) rfl hr8.out _ _ 1 1 GC rfl (Reads.of_own hown8.out) HIX.out.2 (by unfold maxLen; omega) (by omega) (Nat.zero_le _) ?_
    intro v' w11 ho11 hg11 hu11
    obtain ⟨ad', cap', rfl⟩ := ownForm ho11
    have hK11 : Kept (fun b => (sGots l y).blk = some b) w5 w11 := H8.out.trans ((Kept.of_grown' hg11).more fun k _ e => by
      obtain ⟨b, hb, rfl⟩ := e
      exact hb)
    refine hT.out _ _ (fun _ => HSS.out _ hK11) ?_
    clear hT T
    simp only [Act.put, List.getElem_toArray, List.getElem_cons_succ, List.getElem_cons_zero, List.setIfInBounds_toArray, List.set_cons_zero, List.set_cons_succ]
    have hgot := jown_got H5.out.1 H5.out.2.1 (i, false) ad' cap' (w11 := w11) (by rw [H5.out.2.2.1, gotsV_snoc, ← HGC.out]; exact ho11) (by rw [H5.out.2.2.1]; exact hK11) (by
      rw [H5.out.2.2.1]
      intro b e
      rcases hu11 with h | h
      · left
        rw [h] at e
        exact e
      · right
        rw [h] at e
        injection e with e
        have := HBW.out.size
        omega)
    rw [H5.out.2.2.1] at hgot
    rw [← HYB.out] at hgot
    have q4 : w11.cell? ⟨yb, 4, none⟩ = some (.slice y.ga y.s.gots.length y.gc) := (cell_of_row _ _ 4 _ _ _ hgot.1).trans rfl
    have qf : w11.frozen? ⟨yb, 4, none⟩ = false := frozen_of_row _ _ _ _ _ hgot.1
    have HE := Lib.hid (show JTo wB g o l R (n + 1) M.h tE (w11.setCell ⟨yb, 4, none⟩ (.slice ad' (y.s.gots.length + 1) cap')) from by
      refine ⟨_, hgot.2, ?_, ?_, H5.out.2.2.2.2.2.1⟩
      · have hJ5 : JOk g o l (n + 1) M5 := by rw [H5.out.2.2.2.2.2.2]; exact (HH.out.2.2.1.more (Nat.le_succ n)).br 2 bq
        have hx5 := hJ5.st y H5.out.2.2.2.1
        refine hJ5.setS H5.out.2.1 (by rw [H5.out.2.2.1]; rfl) ⟨hx5.bf, hx5.tr, hx5.nx, hx5.vw, hx5.rd, fun p hp => ?_, hx5.ups, ?_, hx5.ul⟩
        · have hp : p ∈ y.s.gots ++ [(i, false)] := hp
          rcases List.mem_append.1 hp with hp | hp
          · exact hx5.gots p hp
          · rw [List.mem_singleton.1 hp]
            exact HIL.out
        · show (y.s.gots ++ [(i, false)]).length ≤ n + 1
          rw [List.length_append, List.length_singleton]
          omega
      · rw [projJ_setS, H5.out.2.2.2.2.2.2, projJ_br, hIN, HBQ.out, show y.s.tr.isSome = false from by rw [← HTQ.out]; rfl]
        rfl)
    have HK11 := Lib.hid hK11
    clear hgot hK11 hg11 hu11 ho11 hr8 hown8
    refine wpAnyS_ready (rs := [18]) (by kernel_rfl) (by simp) ?_
    refine AllReadyS.cons rfl (fun T hT => ?_) AllReadyS.nil
    go_simp
    refine hT.out _ _ (fun _ => HSS.out _ HK11.out) ?_
    clear hT T
    simp only [Act.put, List.getElem_toArray, List.getElem_cons_succ, List.getElem_cons_zero, List.setIfInBounds_toArray, List.set_cons_zero, List.set_cons_succ]
    refine wpAnyS_ready (rs := [19]) (by kernel_rfl) (by simp) ?_
    refine AllReadyS.cons rfl (fun T hT => ?_) AllReadyS.nil
    go_simp
    refine hT.out _ _ (fun _ => HSS.out _ HK11.out) ?_
    clear hT T
    simp only [Act.put, List.getElem_toArray, List.getElem_cons_succ, List.getElem_cons_zero, List.setIfInBounds_toArray, List.set_cons_zero, List.set_cons_succ]
    refine wpAnyS_ready (rs := [20]) (by kernel_rfl) (by simp) ?_
    refine AllReadyS.cons rfl (fun T hT => ?_) AllReadyS.nil
    go_simp
    refine hT.out _ _ (fun h => absurd h (by omega)) ?_
    clear hT T
    simp only [Act.put, List.getElem_toArray, List.getElem_cons_succ, List.getElem_cons_zero, List.setIfInBounds_toArray, List.set_cons_zero, List.set_cons_succ]
    refine wpAnyS_done (by kernel_rfl) ?_ _
    go_wp2_with fail
    go_end0
    exact ⟨rfl, HE.out⟩
  | some q =>
    replace c5 : w1.cell? ⟨yb, 5, none⟩ = some (.pointer (some ⟨g, o + q * 19, none⟩)) := c5
    have hql := (HH.out.2.2.1.st y HH.out.2.2.2.2.2.2).tr q htq.symm
    obtain ⟨xq, hxq⟩ : ∃ xq, l[q]? = some xq := ⟨_, List.getElem?_eq_getElem hql⟩
    have hz : n1 = (xq.ne : Int) ∧ n2 = xq.nr := by
      unfold newOf at hcfn
      rw [← htq] at hcfn
      simp only [evN, hxq] at hcfn
      injection hcfn with e1 e2
      exact ⟨e1, e2⟩
    have g4 : w1.cell? ⟨g, o + q * 19 + 4, none⟩ = _ := HT1.out.cell hxq 4 (v := .int .u64 (xq.ne : Int)) rfl ⟨w1, br w1⟩
    have g5 : w1.cell? ⟨g, o + q * 19 + 5, none⟩ = _ := HT1.out.cell hxq 5 (v := .int .i64 xq.nr) rfl ⟨w1, br w1⟩
    have c5b : w2.cell? ⟨yb, 5, none⟩ = some (.pointer (some ⟨g, o + q * 19, none⟩)) := (hbz.cell (p := ⟨yb, 5, none⟩) (cell_lt c5)).trans c5
    have g4b : w2.cell? ⟨g, o + q * 19 + 4, none⟩ = some (.int .u64 (xq.ne : Int)) := (hbz.cell (p := ⟨g, o + q * 19 + 4, none⟩) (cell_lt g4)).trans g4
    have g5b : w2.cell? ⟨g, o + q * 19 + 5, none⟩ = some (.int .i64 xq.nr) := (hbz.cell (p := ⟨g, o + q * 19 + 5, none⟩) (cell_lt g5)).trans g5
    have m0 : w2.cell? ⟨N, 0, none⟩ = some (.int .u64 0) := cell_of_row _ _ 0 _ _ _ hxz
    have m1 : w2.cell? ⟨N, 1, none⟩ = some (.int .i64 0) := cell_of_row _ _ 1 _ _ _ hxz
    have f0 := frozen_of_row _ _ 0 _ _ hxz
    have f1 := frozen_of_row _ _ 1 _ _ hxz
    have hx2 := setCell_block (setCell_block hxz 0 (.int .u64 (xq.ne : Int))) 1 (.int .i64 xq.nr)
    obtain ⟨w3, hw3⟩ : ∃ w3, w3 = (w2.setCell ⟨N, 0, none⟩ (.int .u64 (xq.ne : Int))).setCell ⟨N, 1, none⟩ (.int .i64 xq.nr) := ⟨_, rfl⟩
    have H3 := Lib.hid (show w3.heap[N]? = some (.cells #[.int .u64 n1, .int .i64 n2] 27 (0, 0)) ∧ Below w1.heap.size w1 w3 from by rw [hw3, hz.1, hz.2]; exact ⟨hx2, bs (bs hbz (p := ⟨N, 0, none⟩) (by show w1.heap.size ≤ N; omega) _) (p := ⟨N, 1, none⟩) (by show w1.heap.size ≤ N; omega) _⟩)
    have HW2 := Lib.hid (And.intro hw2 hN)
    have HW3 := Lib.hid hw3
    have HTQ := Lib.hid htq
    clear hcfn hql hxq hxz hbz hx2 hw2 hN htq c5 g4 g5 hw3 hz
    go_upto_region 10 with (fail)
    rw [← HW2.out.1, ← HW2.out.2]
    clear HW2
    go_upto_region 12 with (fail)
    rw [← HW3.out]
    clear HW3 c5b g4b g5b m0 m1 f0 f1
    have h3 := H1.out.below H3.out.2
    have hT3 := HT1.out.below H3.out.2
    have g4 := hT3.cell HH.out.2.2.2.2.1 4 (v := .int .u64 (x.ne : Int)) rfl
    have g5 := hT3.cell HH.out.2.2.2.2.1 5 (v := .int .i64 x.nr) rfl
    have m0 : ∀ z : Bel w3, z.val.cell? ⟨N, 0, none⟩ = some (.int .u64 n1) := Bel.cell (cell_of_row _ _ 0 _ _ _ H3.out.1) (Array.getElem?_eq_some_iff.1 H3.out.1).1
    have m1 : ∀ z : Bel w3, z.val.cell? ⟨N, 1, none⟩ = some (.int .i64 n2) := Bel.cell (cell_of_row _ _ 1 _ _ _ H3.out.1) (Array.getElem?_eq_some_iff.1 H3.out.1).1
    obtain ⟨bq, hbq⟩ : ∃ b, b = !((x.ne : Int) == n1 && x.nr == n2) := ⟨_, rfl⟩
    have hcn : ∀ W : World, (Go.binOp .neq 27 (.agg #[.int .u64 (x.ne : Int), .int .i64 x.nr]) (.agg #[.int .u64 n1, .int .i64 n2])).run Tryz.prog W = .ok (.bool bq) W := fun W => by rw [hbq]; exact confNeq W (x.ne : Int) x.nr n1 n2
    have hbq2 : bq = !decide (next x = newOf l y.s) := by
      rw [hbq, ← HCF.out]
      congr 1
      rw [Bool.eq_iff_iff]
      simp [next, Prod.ext_iff]
    have HBQ := Lib.hid hbq2
    have HB3 := Lib.hid (show ∀ w4, Below w3.heap.size w3 w4 → Calls Tryz.prog 22 #[.pointer (some ⟨TT, 0, none⟩), .int .i64 2, .bool bq] w4 fun e w' => e = .returned (.tuple #[]) ∧ At wB (jparts g o l (M.br 2 bq) ++ R) w' from fun w4 hb => by rw [HTT.out]; exact jbreaks_any (h3.below hb) 2 bq)
    clear h3 hT3 hbq hbq2
    refine wp_region_bel_tail 7 (by kernel_rfl) (by kernel_rfl) ?_
    simp only [List.take_succ_cons, List.take_zero, List.drop_succ_cons, List.drop_zero]
    repeat (go_big_quiet_step ((fail)))
    refine wpQuiet_nil ?_
    intro w4 hw4
    have hb4 := bel_out hw4
    clear g4 g5 m0 m1 hcn
    go_wp2_with fail
    refine (HB3.out w4 hb4).mono ?_
    rintro e w5 ⟨rfl, h5⟩
    obtain ⟨e1, e2', _⟩ := br_fix M 2 bq
    obtain ⟨M5, hM5⟩ : ∃ M5, M5 = M.br 2 bq := ⟨_, rfl⟩
    rw [← hM5] at h5 e1 e2'
    have hk5 : k < M5.stays.length := by rw [e2']; exact HK.out
    have hy5 : M5.stays[k] = y := by
      have : M5.stays[k] = M.stays[k]'HK.out := by simp only [e2']
      rw [this, ← HH.out.2.2.2.2.2.1]
    have hym5 : y ∈ M5.stays := by rw [e2']; exact HH.out.2.2.2.2.2.2
    have hT5 := HH.out.2.1.below h5.bel
    have H5 := Lib.hid (And.intro h5 (And.intro hk5 (And.intro hy5 (And.intro hym5 (And.intro hT5 (And.intro e1 hM5))))))
    have HSS := Lib.hid (show ∀ w', Kept (fun b => (sGots l y).blk = some b) w5 w' → (w'.cell? ⟨yb, 4, none⟩ = some (.slice y.ga y.s.gots.length y.gc) ∧ w'.cell? ⟨yb, 5, none⟩ = some (.pointer (some ⟨g, o + q * 19, none⟩))) ∧ w'.rangeAt g (o + i * 19 + 7) (msgA x.m).toList from fun w' hk => by
      have hst := jown_st h5.own hym5
      have hg2 := hk.keep hst (fun e => by
        obtain ⟨c, fz, hc⟩ := Lib.ownsRow_kind (jown_gots h5.own hym5) y.b e
        rw [hst] at hc
        injection hc with hc
        injection hc with _ hc _
        exact absurd hc (by decide))
      rw [HYB.out]
      refine ⟨⟨(cell_of_row _ _ 4 _ _ _ hg2).trans rfl, (cell_of_row _ _ 5 _ _ _ hg2).trans (by show some (evP g o y.s.tr) = _; rw [← HTQ.out]; rfl)⟩, fun j u hu => ?_⟩
      have hgB : g < wB.heap.size := HH.out.2.1.lt HIL.out
      refine (hk.cell (p := ⟨g, o + i * 19 + 7 + j, none⟩) (Nat.lt_of_lt_of_le hgB h5.bel.size) (fun e => ?_)).trans (hT5.msg HH.out.2.2.2.2.1 j u hu)
      have := h5.own.base (sGots l y) (List.mem_append_left _ (by simp only [jparts, List.mem_cons, List.mem_flatMap]; exact .inr (.inr (.inr (.inr (.inr ⟨y, hym5, by simp [sP]⟩)))))) g e
      omega)
    clear h5 e1 e2' hM5 hy5 hym5 hT5 hb4 hw4 HB3
    go_upto_region 13 with (fail)
    have hk0 : Kept (fun b => (sGots l y).blk = some b) w5 w5.drew := (Kept.refl _ _).drew
    refine wp_region_mask (fun w' => (w'.cell? ⟨yb, 4, none⟩ = some (.slice y.ga y.s.gots.length y.gc) ∧ w'.cell? ⟨yb, 5, none⟩ = some (.pointer (some ⟨g, o + q * 19, none⟩))) ∧ w'.rangeAt g (o + i * 19 + 7) (msgA x.m).toList) 20 5 [true, true, true, true, true, true, true, true, true, true, true, true, true, true, true, true, false, false, false, false, false] #[true, true, true, true, true, true, true, true, true, true, true, true, true, true, true, true, false, false, false, false, false] (by kernel_rfl) (by kernel_rfl) (by kernel_rfl) (HSS.out _ hk0) ?_
    have HK0 := Lib.hid hk0
    have HB0 := Lib.hid (show Below w5.heap.size w5 w5.drew from (br w5).drew)
    clear hk0
    generalize w5.drew = w6 at *
    obtain ⟨i0, hi, hz0, hz1, hz2⟩ := info_parts info58
    have HI := Lib.hid (And.intro hi (And.intro hz0 (And.intro hz1 hz2)))
    clear hi hz0 hz1 hz2
    iterate 9
      refine wpMask_take _ (Or.inl ⟨by rfl, fun w' hS => by obtain ⟨⟨h1, h2⟩, h3⟩ := hS; clear h3; go_simp; try with_reducible rfl⟩) ?_
      simp only [Act.put, List.getElem_toArray, List.getElem_cons_succ, List.getElem_cons_zero, List.setIfInBounds_toArray, List.set_cons_zero, List.set_cons_succ]
    refine wpMask_take _ (yieldsIf_load_mid (by rfl) 31 (.tmp 87) rfl g (o + i * 19 + 7) rfl (msgA x.m).toList _ (fun w' hS => hS.2) Tryz.underlying31 rfl (by kernel_rfl)) ?_
    simp only [Act.put, List.getElem_toArray, List.getElem_cons_succ, List.getElem_cons_zero, List.setIfInBounds_toArray, List.set_cons_zero, List.set_cons_succ]
    iterate 4
      refine wpMask_take _ (Or.inl ⟨by rfl, fun w' hS => by obtain ⟨⟨h1, h2⟩, h3⟩ := hS; clear h3; go_simp; try with_reducible rfl⟩) ?_
      simp only [Act.put, List.getElem_toArray, List.getElem_cons_succ, List.getElem_cons_zero, List.setIfInBounds_toArray, List.set_cons_zero, List.set_cons_succ]
    refine wpMask_take (.bool true) (Or.inl ⟨by rfl, fun w' hS => by clear hS; go_simp; try with_reducible rfl⟩) ?_
    simp only [Act.put, List.getElem_toArray, List.getElem_cons_succ, List.getElem_cons_zero, List.setIfInBounds_toArray, List.set_cons_zero, List.set_cons_succ]
    obtain ⟨GC, hGC⟩ : ∃ c, c = gotC l (i, true) := ⟨_, rfl⟩
    have HIX := Lib.hid (show GC.length = 8 ∧ ∀ u ∈ GC, u.oneCell' = true from by rw [hGC]; exact ⟨gotC_len l _, gotC_one l _⟩)
    have hbl : Tryz.prog.built 58 [(0, .int .i64 (i : Int)), (1, .agg (msgA x.m).toList.toArray), (2, .bool true)] = some GC.toArray := by
      rw [hGC, show gotC l (i, true) = Value.int .i64 (i : Int) :: ((msgA x.m).toList ++ [.bool true]) from by unfold gotC; rw [evMsg_at HH.out.2.2.2.2.1]]
      exact bldG (i : Int) x.m true
    obtain ⟨MC, hMC⟩ : ∃ c, c = (msgA x.m).toList.toArray := ⟨_, rfl⟩
    rw [← hMC] at hbl ⊢
    have HGC := Lib.hid hGC
    have HBL := Lib.hid hbl
    clear hGC hbl hMC
    refine wpMask_take _ (yieldsIf_buildJ (by rfl) 58 #[(0, .tmp 84), (1, .tmp 88), (2, .tmp 93)] rfl GC.toArray (by simp only [List.map_toArray, List.map_cons, List.map_nil]; exact HBL.out)) ?_
    simp only [Act.put, List.getElem_toArray, List.getElem_cons_succ, List.getElem_cons_zero, List.setIfInBounds_toArray, List.set_cons_zero, List.set_cons_succ]
    iterate 5 refine wpMask_skip ?_
    refine wpMask_nil ?_
    refine wpAnyS_ready (rs := [16]) (by kernel_rfl) (by simp) ?_
    refine AllReadyS.cons rfl (fun T hT => ?_) AllReadyS.nil
    refine step_buildSlice_row rfl 53 (.tmp 94) rfl 58 i0 _ Tryz.underlying53 HI.out.1 HI.out.2.1 GC.toArray rfl (by rw [HI.out.2.2.1]; simp [HIX.out.1]) (by simp [HIX.out.1]) (by simp [HIX.out.1]) ?_
    have H8 := Lib.hid (HK0.out.alloc (.cells GC.toArray 58))
    refine hT.out _ _ (fun _ => HSS.out _ H8.out) ?_
    clear hT T
    simp only [Act.put, List.getElem_toArray, List.getElem_cons_succ, List.getElem_cons_zero, List.setIfInBounds_toArray, List.set_cons_zero, List.set_cons_succ]
    have hown8 := Lib.hid (ownOne w6 0 58 GC.toArray 8 (by simpa using HIX.out.1) (Nat.zero_le _))
    have hbW := ba HB0.out (.cells GC.toArray 58)
    have hr8 := Lib.hid (jown_gots ((H5.out.1.below hbW).own) H5.out.2.2.2.1)
    have HBW := Lib.hid hbW
    clear hbW
    generalize w6.alloc (.cells GC.toArray 58) = w8 at *
    refine wpAnyS_ready (rs := [17]) (by kernel_rfl) (by simp) ?_
    refine AllReadyS.cons rfl (fun T hT => ?_) AllReadyS.nil
    have hgl := (HH.out.2.2.1.st y HH.out.2.2.2.2.2.2).gl
    have hn5 := HH.out.2.2.2.1
    refine step_append_any _ rfl (.tmp 83) (.tmp 95) 53 rfl 0 58 i0 _ 8 88 Tryz.underlying53 HI.out.1 HI.out.2.1 HI.out.2.2.1 HI.out.2.2.2 rfl (by decide) _ y.s.gots.length (gotsV l y.s.gots) rfl hr8.out _ _ 1 1 GC rfl (Reads.of_own hown8.out) HIX.out.2 (by unfold maxLen; omega) (by omega) (Nat.zero_le _) ?_
    intro v' w11 ho11 hg11 hu11
    obtain ⟨ad', cap', rfl⟩ := ownForm ho11
    have hK11 : Kept (fun b => (sGots l y).blk = some b) w5 w11 := H8.out.trans ((Kept.of_grown' hg11).more fun k _ e => by
      obtain ⟨b, hb, rfl⟩ := e
      exact hb)
    refine hT.out _ _ (fun _ => HSS.out _ hK11) ?_
    clear hT T
    simp only [Act.put, List.getElem_toArray, List.getElem_cons_succ, List.getElem_cons_zero, List.setIfInBounds_toArray, List.set_cons_zero, List.set_cons_succ]
    have hgot := jown_got H5.out.1 H5.out.2.1 (i, true) ad' cap' (w11 := w11) (by rw [H5.out.2.2.1, gotsV_snoc, ← HGC.out]; exact ho11) (by rw [H5.out.2.2.1]; exact hK11) (by
      rw [H5.out.2.2.1]
      intro b e
      rcases hu11 with h | h
      · left
        rw [h] at e
        exact e
      · right
        rw [h] at e
        injection e with e
        have := HBW.out.size
        omega)
    rw [H5.out.2.2.1] at hgot
    rw [← HYB.out] at hgot
    have q4 : w11.cell? ⟨yb, 4, none⟩ = some (.slice y.ga y.s.gots.length y.gc) := (cell_of_row _ _ 4 _ _ _ hgot.1).trans rfl
    have qf : w11.frozen? ⟨yb, 4, none⟩ = false := frozen_of_row _ _ _ _ _ hgot.1
    have HE := Lib.hid (show JTo wB g o l R (n + 1) M.h tE (w11.setCell ⟨yb, 4, none⟩ (.slice ad' (y.s.gots.length + 1) cap')) from by
      refine ⟨_, hgot.2, ?_, ?_, H5.out.2.2.2.2.2.1⟩
      · have hJ5 : JOk g o l (n + 1) M5 := by rw [H5.out.2.2.2.2.2.2]; exact (HH.out.2.2.1.more (Nat.le_succ n)).br 2 bq
        have hx5 := hJ5.st y H5.out.2.2.2.1
        refine hJ5.setS H5.out.2.1 (by rw [H5.out.2.2.1]; rfl) ⟨hx5.bf, hx5.tr, hx5.nx, hx5.vw, hx5.rd, fun p hp => ?_, hx5.ups, ?_, hx5.ul⟩
        · have hp : p ∈ y.s.gots ++ [(i, true)] := hp
          rcases List.mem_append.1 hp with hp | hp
          · exact hx5.gots p hp
          · rw [List.mem_singleton.1 hp]
            exact HIL.out
        · show (y.s.gots ++ [(i, true)]).length ≤ n + 1
          rw [List.length_append, List.length_singleton]
          omega
      · rw [projJ_setS, H5.out.2.2.2.2.2.2, projJ_br, hIN, HBQ.out, show y.s.tr.isSome = true from by rw [← HTQ.out]; rfl]
        rfl)
    have HK11 := Lib.hid hK11
    clear hgot hK11 hg11 hu11 ho11 hr8 hown8
    refine wpAnyS_ready (rs := [18]) (by kernel_rfl) (by simp) ?_
    refine AllReadyS.cons rfl (fun T hT => ?_) AllReadyS.nil
    go_simp
    refine hT.out _ _ (fun _ => HSS.out _ HK11.out) ?_
    clear hT T
    simp only [Act.put, List.getElem_toArray, List.getElem_cons_succ, List.getElem_cons_zero, List.setIfInBounds_toArray, List.set_cons_zero, List.set_cons_succ]
    refine wpAnyS_ready (rs := [19]) (by kernel_rfl) (by simp) ?_
    refine AllReadyS.cons rfl (fun T hT => ?_) AllReadyS.nil
    go_simp
    refine hT.out _ _ (fun _ => HSS.out _ HK11.out) ?_
    clear hT T
    simp only [Act.put, List.getElem_toArray, List.getElem_cons_succ, List.getElem_cons_zero, List.setIfInBounds_toArray, List.set_cons_zero, List.set_cons_succ]
    refine wpAnyS_ready (rs := [20]) (by kernel_rfl) (by simp) ?_
    refine AllReadyS.cons rfl (fun T hT => ?_) AllReadyS.nil
    go_simp
    refine hT.out _ _ (fun h => absurd h (by omega)) ?_
    clear hT T
    simp only [Act.put, List.getElem_toArray, List.getElem_cons_succ, List.getElem_cons_zero, List.setIfInBounds_toArray, List.set_cons_zero, List.set_cons_succ]
    refine wpAnyS_done (by kernel_rfl) ?_ _
    go_wp2_with fail
    go_end0
    exact ⟨rfl, HE.out⟩
end Go.Proofs.YtogagkgkmoppmaaGreatDoor
