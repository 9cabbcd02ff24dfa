/-
  The judge goes through a trace.
  Conditions: those that each theorem names.
-/
import Derived.Test.YtogagkgkmoppmaaJuG
import Derived.Test.YtogagkgkmoppmaaJuK
namespace Go.Proofs.Ytogagkgkmoppmaa
set_option linter.unusedVariables false
set_option linter.unusedSimpArgs false
open Go.RowKit GM
def JM0 (s : Nat) (ad : Option Addr) (n c : Nat) : JM := ⟨⟨s + 1, ad, n, c, s, s + 2, s + 3⟩, none, 0, [], [], [], 0, []⟩
def newJW (w : World) (ad : Option Addr) (n c : Nat) : World := (((w.alloc (.map #[] 0)).alloc (.cells (trC (JM0 w.heap.size ad n c)) 80)).alloc (.map #[] 0)).alloc (.map #[] 0)
theorem new_ownJ {wB w : World} {g o : Nat} {l : List Ev} {R : List Pc} (h : At wB R w) (ad : Option Addr) (n c : Nat) : At wB (jparts g o l (JM0 w.heap.size ad n c) ++ R) (newJW w ad n c) := by
  obtain ⟨s, hs⟩ : ∃ s, s = w.heap.size := ⟨_, rfl⟩
  obtain ⟨w1, e1⟩ : ∃ w1, w1 = w.alloc (.map #[] 0) := ⟨_, rfl⟩
  obtain ⟨w2, e2⟩ : ∃ w2, w2 = w1.alloc (.cells (trC (JM0 s ad n c)) 80) := ⟨_, rfl⟩
  obtain ⟨w3, e3⟩ : ∃ w3, w3 = w2.alloc (.map #[] 0) := ⟨_, rfl⟩
  obtain ⟨w4, e4⟩ : ∃ w4, w4 = w3.alloc (.map #[] 0) := ⟨_, rfl⟩
  have z1 : w1.heap.size = s + 1 := by rw [e1]; simp [hs]
  have z2 : w2.heap.size = s + 2 := by rw [e2]; simp [z1]
  have z3 : w3.heap.size = s + 3 := by rw [e3]; simp [z2]
  have h0 : At wB (jPtr (JM0 s ad n c) :: R) w := h.new _ (br w) ⟨rfl, .inl ⟨rfl, rfl⟩⟩ (fun b e => by cases e)
  have h1 : At wB (jBad (JM0 s ad n c) :: jPtr (JM0 s ad n c) :: R) w1 := h0.new _ (by rw [e1]; exact ba (br _) _) (by rw [e1]; show GMap intV _ s _; rw [hs]; exact GMap.made intV w) (fun b e => by injection e with e; show w.heap.size ≤ b; rw [← hs, ← e]; exact Nat.le_refl _)
  have h2 : At wB (jTr (JM0 s ad n c) :: jBad (JM0 s ad n c) :: jPtr (JM0 s ad n c) :: R) w2 := h1.new _ (by rw [e2]; exact ba (br _) _) (by rw [e2]; show (w1.alloc _).heap[s + 1]? = _; rw [← z1]; exact heap_alloc_new w1 _) (fun b e => by injection e with e; rw [z1, ← e]; exact Nat.le_refl _)
  have h3 : At wB (jLive (JM0 s ad n c) :: jTr (JM0 s ad n c) :: jBad (JM0 s ad n c) :: jPtr (JM0 s ad n c) :: R) w3 := h2.new _ (by rw [e3]; exact ba (br _) _) (by rw [e3]; show GMap intV _ (s + 2) _; rw [← z2]; exact GMap.made intV w2) (fun b e => by injection e with e; rw [z2, ← e]; exact Nat.le_refl _)
  have h4 : At wB (jNow (JM0 s ad n c) :: jLive (JM0 s ad n c) :: jTr (JM0 s ad n c) :: jBad (JM0 s ad n c) :: jPtr (JM0 s ad n c) :: R) w4 := h3.new _ (by rw [e4]; exact ba (br _) _) (by rw [e4]; show GMap intV _ (s + 3) _; rw [← z3]; exact GMap.made intV w3) (fun b e => by injection e with e; rw [z3, ← e]; exact Nat.le_refl _)
  have hw : newJW w ad n c = w4 := by rw [e4, e3, e2, e1, hs]; rfl
  rw [← hs, hw]
  refine h4.perm ?_
  show ([jNow (JM0 s ad n c), jLive (JM0 s ad n c), jTr (JM0 s ad n c), jBad (JM0 s ad n c), jPtr (JM0 s ad n c)] ++ R).Perm ([jTr (JM0 s ad n c), jBad (JM0 s ad n c), jPtr (JM0 s ad n c), jLive (JM0 s ad n c), jNow (JM0 s ad n c)] ++ R)
  refine List.Perm.append_right R ?_
  exact (List.perm_append_comm (l₁ := [jNow (JM0 s ad n c), jLive (JM0 s ad n c)]) (l₂ := [jTr (JM0 s ad n c), jBad (JM0 s ad n c), jPtr (JM0 s ad n c)])).trans (List.Perm.append_left [jTr (JM0 s ad n c), jBad (JM0 s ad n c), jPtr (JM0 s ad n c)] (List.Perm.swap _ _ []))
/-- a start, or a stop -/
def JM.live1 (M : JM) (p : Int) (b : Bool) : JM := { M with live := put M.live p b }
def JM.now1 (M : JM) (p : Int) : JM := { M with now := del M.now p }
def JM.lived (M : JM) (p : Int) (b : Bool) : JM := (M.live1 p b).now1 p
theorem At.live1 {wB w w1 : World} {g o : Nat} {l : List Ev} {M : JM} {R : List Pc} (h : At wB (jparts g o l M ++ R) w) (p : Int) (b : Bool) (h1 : GMap intV w1 M.h.lb (put (vals boolV M.live) p (.bool b))) (g1 : w.grownBy w1 (some M.h.lb)) : At wB (jparts g o l (M.live1 p b) ++ R) w1 :=
  h.one (w' := w1) 3 (p := jLive M) (jLive (M.live1 p b)) rfl ((Kept.of_grown g1).more fun k _ e => by rw [e]; rfl) (by
    show GMap intV w1 M.h.lb (vals boolV (put M.live p b))
    rw [← put_vals]
    exact h1) (fun b e => .inl e)
theorem At.now1 {wB w w1 : World} {g o : Nat} {l : List Ev} {M : JM} {R : List Pc} (h : At wB (jparts g o l M ++ R) w) (p : Int) (h1 : GMap intV w1 M.h.nb (del (vals (nthJ M.stays) M.now) p)) (g1 : w.grownBy w1 (some M.h.nb)) : At wB (jparts g o l (M.now1 p) ++ R) w1 :=
  h.one (w' := w1) 4 (p := jNow M) (jNow (M.now1 p)) rfl ((Kept.of_grown g1).more fun k _ e => by rw [e]; rfl) (by
    show GMap intV w1 M.h.nb (vals (nthJ M.stays) (del M.now p))
    rw [← del_vals]
    exact h1) (fun b e => .inl e)
theorem JOk.lived {g o n : Nat} {l : List Ev} {M : JM} (h : JOk g o l n M) (p : Int) (b : Bool) : JOk g o l n (M.lived p b) := ⟨fun q hq => h.now q (List.mem_filter.1 hq).1, h.st, h.n, h.la, h.ll⟩
theorem thru_succ {l : List Ev} {nm : Nat → List NameK} {j : Nat} {x : Ev} (h : l[j]? = some x) : thru l nm (j + 1) = (thru l nm j).step l nm j x := by
  show (match l[j]? with
    | none => thru l nm j
    | some x => (thru l nm j).step l nm j x) = _
  rw [h]
theorem take_lt {j n : Nat} (h : j < n) : decide ((j : Int) < (n : Int)) = true ∧ decide (j < n) = true ∧ (j : Int) < (n : Int) := ⟨by rw [decide_eq_true_eq]; omega, by rw [decide_eq_true_eq]; omega, by omega⟩
set_option maxRecDepth 100000 in
set_option maxHeartbeats 16000000 in
theorem through_any {wB w : World} {g o : Nat} {l : List Ev} {nm : Nat → List NameK} {R : List Pc} (h : At wB R w) (hT : Tr wB g o l nm) (ad : Option Addr) (had : 0 < l.length → ad = some ⟨g, o, none⟩) (cap : Nat) (hl : l.length ≤ 5000) :
    Calls Try.prog 26 #[.slice ad l.length cap] w fun e w' => ∃ H, e = .returned (.pointer (some ⟨H.T, 0, none⟩)) ∧ JTo wB g o l R l.length H (thru l nm l.length) w' := by
  obtain ⟨n, hn⟩ : ∃ n, n = l.length := ⟨_, rfl⟩
  have hN := new_ownJ (g := g) (o := o) (l := l) h ad n cap
  obtain ⟨H, hH⟩ : ∃ H, H = (JM0 w.heap.size ad n cap).h := ⟨_, rfl⟩
  have HE := Lib.hid (show JTo wB g o l R 0 H (thru l nm 0) (newJW w ad n cap) from ⟨JM0 w.heap.size ad n cap, hN, ⟨fun p hp => (by cases hp), fun x hx => (by cases hx), Nat.le_refl _, had, hn⟩, rfl, hH.symm⟩)
  have HT := Lib.hid (And.intro hT (And.intro hl (And.intro had hn)))
  have HH := Lib.hid hH
  have hmm := @run_makeMap Try.prog
  have hn9 : n ≤ 5000 := by rw [hn]; exact hl
  rw [← hn]
  clear h hT hN hH had hl hn
  go_enter Try.func26, Try.ntmps26
  go_wp2_with fail
  go_loopw [16] (fun i wr => ∃ j : Nat, j ≤ n ∧ i = .int .i64 (j : Int) ∧ Hid (JTo wB g o l R j H (thru l nm j) wr)) (fun i _ => n - (intOf i).toNat)
  case atStart => exact ⟨0, by omega, rfl, HE⟩
  case round =>
    obtain ⟨j, hj, rfl, HW⟩ := hrel
    by_cases hlt : j < n
    · obtain ⟨hd1, hd2, hd3⟩ := take_lt hlt
      obtain ⟨M, hA, hJ, hP, hMH⟩ := HW.out
      have hjl : j < l.length := by rw [← HT.out.2.2.2]; exact hlt
      obtain ⟨x, hx⟩ : ∃ x, l[j]? = some x := ⟨_, List.getElem?_eq_getElem hjl⟩
      have hTr := HT.out.1.below hA.bel
      have hstep := thru_succ (nm := nm) hx
      rw [← hP] at hstep
      have e0 : wr.cell? ⟨g, o + j * 19, none⟩ = some (.int .i64 x.kind) := hTr.cell hx 0 (v := .int .i64 x.kind) rfl ⟨wr, br wr⟩
      have e1 : ∀ y : Bel wr, y.val.cell? ⟨g, o + j * 19 + 1, none⟩ = some (.int .i64 x.proc) := hTr.cell hx 1 (v := .int .i64 x.proc) rfl
      obtain ⟨kd, hkd⟩ : ∃ kd, kd = x.kind := ⟨_, rfl⟩
      rw [← hkd] at e0
      have HKD := Lib.hid hkd
      have HS := Lib.hid hstep
      have hM : M.h.T = w.heap.size + 1 ∧ M.h.lb = w.heap.size + 1 + 1 ∧ M.h.nb = w.heap.size + 1 + 1 + 1 := by rw [hMH, HH.out]; exact ⟨rfl, rfl, rfl⟩
      have hmo : M.h = H := hMH
      have HM := Lib.hid hM
      have HX := Lib.hid (And.intro hx (And.intro hlt (And.intro hA (And.intro hTr (And.intro hJ hMH)))))
      have had := HT.out.2.2.1 (by omega)
      have HJS := Lib.hid (show ∀ we, JTo wB g o l R (j + 1) M.h ((projJ M).step l nm j x) we → JTo wB g o l R (j + 1) H (thru l nm (j + 1)) we from fun we h => by rw [HS.out, ← HX.out.2.2.2.2.2]; exact h)
      clear hkd hstep hx hA hTr hJ hMH hM hmo hlt hjl hP HW HE hmm HS
      rw [had]
      by_cases k56 : kd = 5 ∨ kd = 6
      · have y1 : wr.cell? ⟨g, o + j * 19 + 1, none⟩ = some (.int .i64 x.proc) := e1 ⟨wr, br wr⟩
        obtain ⟨bb, hbb⟩ : ∃ b, b = decide (kd = 5) := ⟨_, rfl⟩
        have hst : (projJ M).step l nm j x = projJ (M.lived x.proc bb) := by
          unfold J.step
          rw [← HKD.out]
          rcases k56 with rfl | rfl
          · rw [if_pos rfl, hbb]; rfl
          · rw [if_neg (by decide), if_pos rfl, hbb]; rfl
        obtain ⟨wb, hrun, hg, hgr, hsz⟩ := (jown_live HX.out.2.2.1.own).update (P := Try.prog) Try.underlying51 intLaw x.proc (.bool bb)
        have hB := HX.out.2.2.1.live1 x.proc bb hg hgr
        obtain ⟨we, hrun2, hg2, hgr2, hsz2⟩ := (jown_now hB.own).drop (P := Try.prog) Try.underlying95 intLaw 0 x.proc
        have hE := hB.now1 x.proc hg2 hgr2
        have y2 : wb.cell? ⟨g, o + j * 19 + 1, none⟩ = some (.int .i64 x.proc) := (HT.out.1.below hB.bel).cell HX.out.1 1 (v := .int .i64 x.proc) rfl ⟨wb, br wb⟩
        have HEN := Lib.hid (show JTo wB g o l R (j + 1) H (thru l nm (j + 1)) we from HJS.out we (by
          rw [hst]
          exact ⟨_, hE, (HX.out.2.2.2.2.1.lived x.proc bb).more (Nat.le_succ j), rfl, rfl⟩))
        have hrun : (Instr.mapUpdate 51 (.map (some M.h.lb)) (.int .i64 x.proc) (.bool bb)).run Try.prog wr = .ok () wb := hrun
        have hrun2 : (Builtin.delete_ #[95, 3] 0 #[.map (some M.h.nb), .int .i64 x.proc]).run Try.prog wb = .ok (.tuple #[]) we := hrun2
        rw [HM.out.2.1] at hrun
        rw [HM.out.2.2] at hrun2
        clear hg hgr hsz hg2 hgr2 hsz2 hB hE hst HJS e1
        generalize w.heap.size + 1 + 1 + 1 = NB at *
        generalize w.heap.size + 1 + 1 = LB at *
        generalize w.heap.size + 1 = TT at *
        rcases k56 with rfl | rfl
        · have hb1 : bb = true := hbb.trans (by decide)
          clear hbb
          subst hb1
          go_wp2_with fail
          exact ⟨⟨j + 1, by have := HX.out.2.1; omega, by go_num, HEN⟩, by have := HX.out.2.1; simp [intOf]; omega⟩
        · have hb1 : bb = false := hbb.trans (by decide)
          clear hbb
          subst hb1
          go_wp2_with fail
          exact ⟨⟨j + 1, by have := HX.out.2.1; omega, by go_num, HEN⟩, by have := HX.out.2.1; simp [intOf]; omega⟩
      have hlook := live_lookJ (w := wr) HX.out.2.2.1.own x.proc
      rw [HM.out.2.1] at hlook
      have hst3 : (projJ M).step l nm j x = if kd = 3 then (projJ M).regular l j x ((get M.live x.proc).getD false) (get M.now x.proc) else if kd = 1 ∨ kd = 2 ∨ kd = 4 then (projJ M).inner l j x ((get M.live x.proc).getD false) (get M.now x.proc) else (projJ M).upper l nm j x (get M.now x.proc) := by
        unfold J.step
        rw [← HKD.out, if_neg (fun h => k56 (.inl h)), if_neg (fun h => k56 (.inr h))]
        rfl
      have hsl : ∀ k, get M.now x.proc = some k → k < M.stays.length := fun k hk => now_ltJ HX.out.2.2.2.2.1 hk
      have hj5 : j ≤ 5000 := by omega
      by_cases k3 : kd = 3
      · have HC := Lib.hid (show Calls Try.prog 41 #[.pointer (some ⟨w.heap.size + 1, 0, none⟩), .pointer (some ⟨g, o + j * 19, none⟩), .bool ((get M.live x.proc).getD false), .map (some (w.heap.size + 1 + 1 + 1))] wr fun e w' => e = .returned (.tuple #[]) ∧ JTo wB g o l R (j + 1) H (thru l nm (j + 1)) w' from by
          have h := jregular_any HX.out.2.2.1 HT.out.1 HX.out.2.2.2.2.1 hj5 j x HX.out.1 ((get M.live x.proc).getD false)
          rw [HM.out.1, HM.out.2.2] at h
          exact h.mono fun e w' ⟨h1, h2⟩ => ⟨h1, HJS.out w' (by rw [hst3, if_pos k3]; exact h2)⟩)
        have y1 : wr.cell? ⟨g, o + j * 19 + 1, none⟩ = some (.int .i64 x.proc) := e1 ⟨wr, br wr⟩
        subst k3
        clear hst3 hsl hj5 HJS k56 e1
        generalize w.heap.size + 1 + 1 + 1 = NB at *
        generalize w.heap.size + 1 + 1 = LB at *
        generalize w.heap.size + 1 = TT at *
        generalize (get M.live x.proc).getD false = lv at *
        go_wp2_with fail
        refine HC.out.mono ?_
        rintro e w2 ⟨rfl, hE⟩
        have HEN := Lib.hid hE
        clear hE HC hlook y1 e0
        go_wp2_with fail
        exact ⟨⟨j + 1, by have := HX.out.2.1; omega, by go_num, HEN⟩, by have := HX.out.2.1; simp [intOf]; omega⟩
      by_cases k124 : kd = 1 ∨ kd = 2 ∨ kd = 4
      · have HC := Lib.hid (show ∀ W, Below wr.heap.size wr W → Calls Try.prog 42 #[.pointer (some ⟨w.heap.size + 1, 0, none⟩), .int .i64 (j : Int), .pointer (some ⟨g, o + j * 19, none⟩), .bool ((get M.live x.proc).getD false), sV M (get M.now x.proc)] W fun e w' => e = .returned (.tuple #[]) ∧ JTo wB g o l R (j + 1) H (thru l nm (j + 1)) w' from fun W hW => by
          have h := inner_any (HX.out.2.2.1.below hW) HT.out.1 HX.out.2.2.2.2.1 hj5 j x HX.out.1 ((get M.live x.proc).getD false) _ hsl
          rw [HM.out.1] at h
          exact h.mono fun e w' ⟨h1, h2⟩ => ⟨h1, HJS.out w' (by rw [hst3, if_neg k3, if_pos k124]; exact h2)⟩)
        have hlk : ∀ y : Bel wr, (Instr.lookup 51 (.map (some (w.heap.size + 1 + 1))) (.int .i64 x.proc) false).run Try.prog y.val = .ok (.bool ((get M.live x.proc).getD false)) y.val := fun y => by
          have h := live_lookJ (HX.out.2.2.1.below y.prop).own x.proc
          rwa [HM.out.2.1] at h
        have hnk : ∀ y : Bel wr, (Instr.lookup 95 (.map (some (w.heap.size + 1 + 1 + 1))) (.int .i64 x.proc) false).run Try.prog y.val = .ok (sV M (get M.now x.proc)) y.val := fun y => by
          have h := now_lookJ (HX.out.2.2.1.below y.prop).own x.proc
          rwa [HM.out.2.2] at h
        clear hst3 hsl hj5 HJS k56 k3 hlook
        generalize w.heap.size + 1 + 1 + 1 = NB at *
        generalize w.heap.size + 1 + 1 = LB at *
        generalize w.heap.size + 1 = TT at *
        generalize (get M.live x.proc).getD false = lv at *
        generalize sV M (get M.now x.proc) = sv at *
        rcases k124 with rfl | rfl | rfl
        all_goals
          go_upto_region 21 with (fail)
          refine wp_region_bel_tail 15 (by kernel_rfl) (by kernel_rfl) ?_
          simp only [List.take_succ_cons, List.take_zero, List.drop_succ_cons, List.drop_zero]
          repeat (go_big_quiet_step ((fail)))
          refine wpQuiet_nil ?_
          intro w3 hw3
          have HC3 := Lib.hid (HC.out w3 (bel_out hw3))
          clear hw3 HC e0 e1 hlk hnk
          go_wp2_with fail
          refine HC3.out.mono ?_
          rintro e w2 ⟨rfl, hE⟩
          have HEN := Lib.hid hE
          clear hE HC3
          go_wp2_with fail
          exact ⟨⟨j + 1, by have := HX.out.2.1; omega, by go_num, HEN⟩, by have := HX.out.2.1; simp [intOf]; omega⟩
      have hnk := now_lookJ (w := wr) HX.out.2.2.1.own x.proc
      rw [HM.out.2.2] at hnk
      have HC := Lib.hid (show Calls Try.prog 43 #[.pointer (some ⟨w.heap.size + 1, 0, none⟩), .int .i64 (j : Int), .pointer (some ⟨g, o + j * 19, none⟩), sV M (get M.now x.proc)] wr fun e w' => e = .returned (.tuple #[]) ∧ JTo wB g o l R (j + 1) H (thru l nm (j + 1)) w' from by
        have h := upper_any HX.out.2.2.1 HT.out.1 HX.out.2.2.2.2.1 hj5 j x HX.out.1 _ hsl
        rw [HM.out.1] at h
        exact h.mono fun e w' ⟨h1, h2⟩ => ⟨h1, HJS.out w' (by rw [hst3, if_neg k3, if_neg k124]; exact h2)⟩)
      have y1 : wr.cell? ⟨g, o + j * 19 + 1, none⟩ = some (.int .i64 x.proc) := e1 ⟨wr, br wr⟩
      have d5 : (kd == 5) = false := by simp; omega
      have d6 : (kd == 6) = false := by simp; omega
      have d3 : (kd == 3) = false := by simp; omega
      have d1 : (kd == 1) = false := by simp; omega
      have d2 : (kd == 2) = false := by simp; omega
      have d4 : (kd == 4) = false := by simp; omega
      clear hst3 hsl hj5 HJS k56 k3 k124 hlook e1
      generalize w.heap.size + 1 + 1 + 1 = NB at *
      generalize w.heap.size + 1 + 1 = LB at *
      generalize w.heap.size + 1 = TT at *
      generalize sV M (get M.now x.proc) = sv at *
      go_wp2_with fail
      refine HC.out.mono ?_
      rintro e w2 ⟨rfl, hE⟩
      have HEN := Lib.hid hE
      clear hE HC hnk y1 e0 d5 d6 d3 d1 d2 d4
      go_wp2_with fail
      exact ⟨⟨j + 1, by have := HX.out.2.1; omega, by go_num, HEN⟩, by have := HX.out.2.1; simp [intOf]; omega⟩
    · have hd : decide ((j : Int) < (n : Int)) = false := by simpa using hlt
      have hd2 : decide (j < n) = false := by simpa using hlt
      have HF := Lib.hid (show JTo wB g o l R n H (thru l nm n) wr from by
        rw [show n = j by omega]
        exact HW.out)
      have hHT : w.heap.size + 1 = H.T := by rw [HH.out]; rfl
      clear HW HE hmm
      go_wp2_with fail
      go_ret
      exact ⟨H, by rw [← hHT]; rfl, HF.out⟩
end Go.Proofs.Ytogagkgkmoppmaa
