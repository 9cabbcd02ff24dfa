/-
  The judge of views: what is said of any trace.
  Conditions: those that each theorem names.
-/
import Derived.Test.YtogagkgkmoppmaaGreatDoorApR
import Derived.Test.YtogagkgkmoppmaaGreatDoorApM
namespace Go.Proofs.YtogagkgkmoppmaaGreatDoor
set_option linter.unusedVariables false
set_option linter.unusedSimpArgs false
open Go.RowKit GM
/-- stays' own order: the one ahead comes ahead; who is ready has a view -/
def SOk (t : J) : Prop := (∀ p ∈ t.now, p.2 < t.stays.length) ∧ ∀ (k : Nat) (s : JS), t.stays[k]? = some s → (∀ j, s.bf = some j → j < k) ∧ (s.rd.isSome = true → s.vw.isSome = true)
theorem SOk.same {t t' : J} (h : SOk t) (h1 : t'.now = t.now) (h2 : t'.stays = t.stays) : SOk t' := by
  unfold SOk
  rw [h1, h2]
  exact h
theorem SOk.br {t : J} (h : SOk t) (r : Int) (b : Bool) : SOk (t.br r b) := h.same (by unfold J.br; split <;> rfl) (by unfold J.br; split <;> rfl)
theorem SOk.wr {t : J} (h : SOk t) (r : Int) (b : Bool) : SOk (t.wr r b) := h.same rfl rfl
theorem SOk.setS {t : J} (h : SOk t) {k : Nat} {o o' : JS} (hk : t.stays[k]? = some o) (h1 : o'.bf = o.bf) (h2 : o'.rd.isSome = true → o'.vw.isSome = true) : SOk (t.setS k o') := by
  refine ⟨fun p hp => ?_, fun j s hs => ?_⟩
  · show p.2 < (t.stays.set k o').length
    rw [List.length_set]
    exact h.1 p hp
  · have hs : (t.stays.set k o')[j]? = some s := hs
    by_cases hj : k = j
    · subst hj
      rw [List.getElem?_set_self (List.getElem?_eq_some_iff.1 hk).1] at hs
      injection hs with hs
      subst hs
      exact ⟨fun i hi => (h.2 k o hk).1 i (by rw [← h1]; exact hi), h2⟩
    · rw [List.getElem?_set_ne hj] at hs
      exact h.2 j s hs
theorem SOk.dups {t : J} (h : SOk t) (x : Ev) (L : List JS) : SOk (t.dups x L) := by
  unfold J.dups
  induction L generalizing t with
  | nil => exact h
  | cons o L ih => exact ih (h.br _ _)
theorem dups_sn (x : Ev) (L : List JS) (t : J) : (t.dups x L).stays = t.stays ∧ (t.dups x L).now = t.now := by
  unfold J.dups
  induction L generalizing t with
  | nil => exact ⟨rfl, rfl⟩
  | cons o L ih =>
    have h := ih (t.br 1 (dupJ x o))
    have h1 : (t.br 1 (dupJ x o)).stays = t.stays := by unfold J.br; split <;> rfl
    have h2 : (t.br 1 (dupJ x o)).now = t.now := by unfold J.br; split <;> rfl
    exact ⟨h.1.trans h1, h.2.trans h2⟩
section
variable {l : List Ev} {nm : Nat → List NameK}
theorem SOk.went {t : J} (h : SOk t) (x : Ev) (i : Nat) (b : Option Nat) : SOk (t.went l x i b) ∧ (t.went l x i b).stays.length = t.stays.length := by
  unfold J.went
  cases b with
  | none => exact ⟨h, rfl⟩
  | some k =>
    cases hk : t.stays[k]? with
    | none => simp only [hk]; exact ⟨h, trivial⟩
    | some o =>
      simp only [hk]
      refine ⟨((h.setS (o := o) (o' := { o with nx := some i }) hk rfl (h.2 k o hk).2).br _ _).br _ _, ?_⟩
      have e : ∀ (t : J) r b, (t.br r b).stays = t.stays := fun t r b => by unfold J.br; split <;> rfl
      rw [e, e]
      exact List.length_set
theorem SOk.regular {t : J} (h : SOk t) (i : Nat) (x : Ev) (lv : Bool) {b : Option Nat} (hb : ∀ k, b = some k → k < t.stays.length) : SOk (t.regular l i x lv b) := by
  unfold J.regular
  have h1 := (h.br 1 (!lv || !hasB x.mem x.proc)).dups x t.stays
  have e : ((t.br 1 (!lv || !hasB x.mem x.proc)).dups x t.stays).stays = t.stays := (dups_sn _ _ _).1.trans (by unfold J.br; split <;> rfl)
  obtain ⟨h2, h3⟩ := h1.went (l := l) x i b
  rw [e] at h3
  generalize ((t.br 1 (!lv || !hasB x.mem x.proc)).dups x t.stays).went l x i b = u at *
  unfold J.enter
  refine ⟨fun p hp => ?_, fun k s hs => ?_⟩
  · show p.2 < (u.stays ++ [newJ x b]).length
    rw [List.length_append, List.length_singleton]
    rcases put_memJ hp with h | h
    · have := h2.1 p h; omega
    · rw [h]; show u.stays.length < _; omega
  · have hs : (u.stays ++ [newJ x b])[k]? = some s := hs
    by_cases hk : k < u.stays.length
    · rw [List.getElem?_append_left hk] at hs
      exact h2.2 k s hs
    · rw [List.getElem?_append_right (by omega)] at hs
      have hk0 : k - u.stays.length = 0 := by
        have := (List.getElem?_eq_some_iff.1 hs).1
        simp at this
        omega
      rw [hk0] at hs
      injection hs with hs
      subst hs
      exact ⟨fun j hj => by have := hb j hj; omega, fun h => by cases h⟩
theorem SOk.inner {t : J} (h : SOk t) (i : Nat) (x : Ev) (lv : Bool) (s : Option Nat) : SOk (t.inner l i x lv s) := by
  unfold J.inner
  cases s with
  | none => exact h.br _ _
  | some k =>
    show SOk (match t.stays[k]? with | none => t | some o => _)
    cases hk : t.stays[k]? with
    | none => exact h
    | some o =>
      show SOk (if lv = true ∧ o.cf = conf x then t.innerAt l i x k o else t.br 1 true)
      split
      · unfold J.innerAt
        have e : ∀ (t : J) r b, (t.br r b).stays = t.stays := fun t r b => by unfold J.br; split <;> rfl
        split
        · exact h.br _ _
        · split
          · exact (h.br _ _).setS (o := o) (by rw [e]; exact hk) rfl (h.2 k o hk).2
          · split
            · exact (h.br _ _).setS (o := o) (by rw [e]; exact hk) rfl (h.2 k o hk).2
            · exact h
      · exact h.br _ _
theorem SOk.mine {t : J} (h : SOk t) (i : Nat) (x : Ev) (s : Option Nat) : SOk (t.mine l nm i x s) := by
  unfold J.mine
  cases t.mineAt x s with
  | none => exact h.wr _ _
  | some k =>
    show SOk (match t.stays[k]? with | none => t | some o => _)
    cases hk : t.stays[k]? with
    | none => exact h
    | some o =>
      show SOk (if strange l nm i x o = true then t.wr 3 true else t.mineTo i x k o)
      split
      · exact h.wr _ _
      · rename_i hst
        have hvw : o.vw.isSome = true := by
          cases hv : o.vw with
          | none => exact absurd (by unfold strange; rw [hv]) hst
          | some v => rfl
        unfold J.mineTo
        split
        · exact (h.wr _ _).setS hk rfl (fun _ => hvw)
        · split
          · exact h.wr _ _
          · split
            · exact (h.wr _ _).setS hk rfl (fun _ => hvw)
            · split
              · exact h.setS hk rfl (fun _ => hvw)
              · exact h
theorem SOk.upper {t : J} (h : SOk t) (i : Nat) (x : Ev) (s : Option Nat) : SOk (t.upper l nm i x s) := by
  unfold J.upper
  split
  · cases s with
    | none => exact h
    | some k =>
      show SOk (match t.stays[k]? with | none => t | some o => _)
      cases hk : t.stays[k]? with
      | none => exact h
      | some o => exact h.setS hk rfl (fun h => by cases h)
  · split
    · exact h.mine i x s
    · exact h
theorem get_memJ {β : Type} {L : List (Int × β)} {i : Int} {v : β} (h : get L i = some v) : ∃ p ∈ L, p.2 = v := by
  unfold GM.get at h
  rw [Option.map_eq_some_iff] at h
  obtain ⟨q, h1, h2⟩ := h
  exact ⟨q, List.mem_of_find?_eq_some h1, h2⟩
theorem sok_thru : ∀ n, SOk (thru l nm n)
  | 0 => ⟨fun p hp => (by cases hp), fun k s hs => (by cases hs)⟩
  | n + 1 => by
    have ih := sok_thru n
    show SOk (match l[n]? with | none => thru l nm n | some x => (thru l nm n).step l nm n x)
    cases l[n]? with
    | none => exact ih
    | some x =>
      show SOk ((thru l nm n).step l nm n x)
      generalize thru l nm n = t at *
      have hnow : ∀ k, get t.now x.proc = some k → k < t.stays.length := fun k hk => by
        obtain ⟨p, hp, h⟩ := get_memJ hk
        rw [← h]
        exact ih.1 p hp
      unfold J.step
      have hdel : ∀ lv, SOk { t with live := lv, now := del t.now x.proc } := fun lv => ⟨fun p hp => ih.1 p (List.mem_filter.1 hp).1, ih.2⟩
      split
      · exact hdel _
      · split
        · exact hdel _
        · split
          · exact ih.regular n x _ hnow
          · split
            · exact ih.inner n x _ _
            · exact ih.upper n x _
theorem SOk.bf {t : J} (h : SOk t) : BfLt t.stays := fun k s hs => (h.2 k s hs).1
theorem SOk.rv {t : J} (h : SOk t) : RdVw t.stays := fun s hs => by
  obtain ⟨k, hk, rfl⟩ := List.getElem_of_mem hs
  exact (h.2 k _ (List.getElem?_eq_getElem hk)).2
end
set_option maxRecDepth 100000 in
set_option maxHeartbeats 16000000 in
theorem through_cap {wB w : World} {g o : Nat} {l : List Ev} {nm : Nat → List NameK} {R : List Pc} (h : At wB R w) (hT : Tr wB g o l nm) (ad : Option Addr) (had : 0 < l.length → ad = some ⟨g, o, none⟩) (cap : Nat) (hl : l.length ≤ 5000) :
    Calls Tryz.prog 10 #[.slice ad l.length cap] w fun e w' => ∃ H, (e = .returned (.pointer (some ⟨H.T, 0, none⟩)) ∧ H.lc = cap) ∧ JTo wB g o l R l.length H (thru l nm l.length) w' := by
  obtain ⟨n, hn⟩ : ∃ n, n = l.length := ⟨_, rfl⟩
  have hN := new_ownJ (g := g) (o := o) (l := l) h ad n cap
  obtain ⟨H, hH⟩ : ∃ H, H = (JM0 w.heap.size ad n cap).h := ⟨_, rfl⟩
  have HE := Lib.hid (show JTo wB g o l R 0 H (thru l nm 0) (newJW w ad n cap) from ⟨JM0 w.heap.size ad n cap, hN, ⟨fun p hp => (by cases hp), fun x hx => (by cases hx), Nat.le_refl _, had, hn⟩, rfl, hH.symm⟩)
  have HT := Lib.hid (And.intro hT (And.intro hl (And.intro had hn)))
  have HH := Lib.hid hH
  have hmm := @run_makeMap Tryz.prog
  have hn9 : n ≤ 5000 := by rw [hn]; exact hl
  rw [← hn]
  clear h hT hN hH had hl hn
  go_enter Tryz.func10, Tryz.ntmps10
  go_wp2_with fail
  go_loopw [16] (fun i wr => ∃ j : Nat, j ≤ n ∧ i = .int .i64 (j : Int) ∧ Hid (JTo wB g o l R j H (thru l nm j) wr)) (fun i _ => n - (intOf i).toNat)
  case atStart => exact ⟨0, by omega, rfl, HE⟩
  case round =>
    obtain ⟨j, hj, rfl, HW⟩ := hrel
    by_cases hlt : j < n
    · obtain ⟨hd1, hd2, hd3⟩ := take_lt hlt
      obtain ⟨M, hA, hJ, hP, hMH⟩ := HW.out
      have hjl : j < l.length := by rw [← HT.out.2.2.2]; exact hlt
      obtain ⟨x, hx⟩ : ∃ x, l[j]? = some x := ⟨_, List.getElem?_eq_getElem hjl⟩
      have hTr := HT.out.1.below hA.bel
      have hstep := thru_succ (nm := nm) hx
      rw [← hP] at hstep
      have e0 : wr.cell? ⟨g, o + j * 19, none⟩ = some (.int .i64 x.kind) := hTr.cell hx 0 (v := .int .i64 x.kind) rfl ⟨wr, br wr⟩
      have e1 : ∀ y : Bel wr, y.val.cell? ⟨g, o + j * 19 + 1, none⟩ = some (.int .i64 x.proc) := hTr.cell hx 1 (v := .int .i64 x.proc) rfl
      obtain ⟨kd, hkd⟩ : ∃ kd, kd = x.kind := ⟨_, rfl⟩
      rw [← hkd] at e0
      have HKD := Lib.hid hkd
      have HS := Lib.hid hstep
      have hM : M.h.T = w.heap.size + 1 ∧ M.h.lb = w.heap.size + 1 + 1 ∧ M.h.nb = w.heap.size + 1 + 1 + 1 := by rw [hMH, HH.out]; exact ⟨rfl, rfl, rfl⟩
      have hmo : M.h = H := hMH
      have HM := Lib.hid hM
      have HX := Lib.hid (And.intro hx (And.intro hlt (And.intro hA (And.intro hTr (And.intro hJ hMH)))))
      have had := HT.out.2.2.1 (by omega)
      have HJS := Lib.hid (show ∀ we, JTo wB g o l R (j + 1) M.h ((projJ M).step l nm j x) we → JTo wB g o l R (j + 1) H (thru l nm (j + 1)) we from fun we h => by rw [HS.out, ← HX.out.2.2.2.2.2]; exact h)
      clear hkd hstep hx hA hTr hJ hMH hM hmo hlt hjl hP HW HE hmm HS
      rw [had]
      by_cases k56 : kd = 5 ∨ kd = 6
      · have y1 : wr.cell? ⟨g, o + j * 19 + 1, none⟩ = some (.int .i64 x.proc) := e1 ⟨wr, br wr⟩
        obtain ⟨bb, hbb⟩ : ∃ b, b = decide (kd = 5) := ⟨_, rfl⟩
        have hst : (projJ M).step l nm j x = projJ (M.lived x.proc bb) := by
          unfold J.step
          rw [← HKD.out]
          rcases k56 with rfl | rfl
          · rw [if_pos rfl, hbb]; rfl
          · rw [if_neg (by decide), if_pos rfl, hbb]; rfl
        obtain ⟨wb, hrun, hg, hgr, hsz⟩ := (jown_live HX.out.2.2.1.own).update (P := Tryz.prog) Tryz.underlying46 intLaw x.proc (.bool bb)
        have hB := HX.out.2.2.1.live1 x.proc bb hg hgr
        obtain ⟨we, hrun2, hg2, hgr2, hsz2⟩ := (jown_now hB.own).drop (P := Tryz.prog) Tryz.underlying67 intLaw 0 x.proc
        have hE := hB.now1 x.proc hg2 hgr2
        have y2 : wb.cell? ⟨g, o + j * 19 + 1, none⟩ = some (.int .i64 x.proc) := (HT.out.1.below hB.bel).cell HX.out.1 1 (v := .int .i64 x.proc) rfl ⟨wb, br wb⟩
        have HEN := Lib.hid (show JTo wB g o l R (j + 1) H (thru l nm (j + 1)) we from HJS.out we (by
          rw [hst]
          exact ⟨_, hE, (HX.out.2.2.2.2.1.lived x.proc bb).more (Nat.le_succ j), rfl, rfl⟩))
        have hrun : (Instr.mapUpdate 46 (.map (some M.h.lb)) (.int .i64 x.proc) (.bool bb)).run Tryz.prog wr = .ok () wb := hrun
        have hrun2 : (Builtin.delete_ #[67, 3] 0 #[.map (some M.h.nb), .int .i64 x.proc]).run Tryz.prog wb = .ok (.tuple #[]) we := hrun2
        rw [HM.out.2.1] at hrun
        rw [HM.out.2.2] at hrun2
        clear hg hgr hsz hg2 hgr2 hsz2 hB hE hst HJS e1
        generalize w.heap.size + 1 + 1 + 1 = NB at *
        generalize w.heap.size + 1 + 1 = LB at *
        generalize w.heap.size + 1 = TT at *
        rcases k56 with rfl | rfl
        · have hb1 : bb = true := hbb.trans (by decide)
          clear hbb
          subst hb1
          go_wp2_with fail
          exact ⟨⟨j + 1, by have := HX.out.2.1; omega, by go_num, HEN⟩, by have := HX.out.2.1; simp [intOf]; omega⟩
        · have hb1 : bb = false := hbb.trans (by decide)
          clear hbb
          subst hb1
          go_wp2_with fail
          exact ⟨⟨j + 1, by have := HX.out.2.1; omega, by go_num, HEN⟩, by have := HX.out.2.1; simp [intOf]; omega⟩
      have hlook := live_lookJ (w := wr) HX.out.2.2.1.own x.proc
      rw [HM.out.2.1] at hlook
      have hst3 : (projJ M).step l nm j x = if kd = 3 then (projJ M).regular l j x ((get M.live x.proc).getD false) (get M.now x.proc) else if kd = 1 ∨ kd = 2 ∨ kd = 4 then (projJ M).inner l j x ((get M.live x.proc).getD false) (get M.now x.proc) else (projJ M).upper l nm j x (get M.now x.proc) := by
        unfold J.step
        rw [← HKD.out, if_neg (fun h => k56 (.inl h)), if_neg (fun h => k56 (.inr h))]
        rfl
      have hsl : ∀ k, get M.now x.proc = some k → k < M.stays.length := fun k hk => now_ltJ HX.out.2.2.2.2.1 hk
      have hj5 : j ≤ 5000 := by omega
      by_cases k3 : kd = 3
      · have HC := Lib.hid (show Calls Tryz.prog 18 #[.pointer (some ⟨w.heap.size + 1, 0, none⟩), .pointer (some ⟨g, o + j * 19, none⟩), .bool ((get M.live x.proc).getD false), .map (some (w.heap.size + 1 + 1 + 1))] wr fun e w' => e = .returned (.tuple #[]) ∧ JTo wB g o l R (j + 1) H (thru l nm (j + 1)) w' from by
          have h := jregular_any HX.out.2.2.1 HT.out.1 HX.out.2.2.2.2.1 hj5 j x HX.out.1 ((get M.live x.proc).getD false)
          rw [HM.out.1, HM.out.2.2] at h
          exact h.mono fun e w' ⟨h1, h2⟩ => ⟨h1, HJS.out w' (by rw [hst3, if_pos k3]; exact h2)⟩)
        have y1 : wr.cell? ⟨g, o + j * 19 + 1, none⟩ = some (.int .i64 x.proc) := e1 ⟨wr, br wr⟩
        subst k3
        clear hst3 hsl hj5 HJS k56 e1
        generalize w.heap.size + 1 + 1 + 1 = NB at *
        generalize w.heap.size + 1 + 1 = LB at *
        generalize w.heap.size + 1 = TT at *
        generalize (get M.live x.proc).getD false = lv at *
        go_wp2_with fail
        refine HC.out.mono ?_
        rintro e w2 ⟨rfl, hE⟩
        have HEN := Lib.hid hE
        clear hE HC hlook y1 e0
        go_wp2_with fail
        exact ⟨⟨j + 1, by have := HX.out.2.1; omega, by go_num, HEN⟩, by have := HX.out.2.1; simp [intOf]; omega⟩
      by_cases k124 : kd = 1 ∨ kd = 2 ∨ kd = 4
      · have HC := Lib.hid (show ∀ W, Below wr.heap.size wr W → Calls Tryz.prog 19 #[.pointer (some ⟨w.heap.size + 1, 0, none⟩), .int .i64 (j : Int), .pointer (some ⟨g, o + j * 19, none⟩), .bool ((get M.live x.proc).getD false), sV M (get M.now x.proc)] W fun e w' => e = .returned (.tuple #[]) ∧ JTo wB g o l R (j + 1) H (thru l nm (j + 1)) w' from fun W hW => by
          have h := inner_any (HX.out.2.2.1.below hW) HT.out.1 HX.out.2.2.2.2.1 hj5 j x HX.out.1 ((get M.live x.proc).getD false) _ hsl
          rw [HM.out.1] at h
          exact h.mono fun e w' ⟨h1, h2⟩ => ⟨h1, HJS.out w' (by rw [hst3, if_neg k3, if_pos k124]; exact h2)⟩)
        have hlk : ∀ y : Bel wr, (Instr.lookup 46 (.map (some (w.heap.size + 1 + 1))) (.int .i64 x.proc) false).run Tryz.prog y.val = .ok (.bool ((get M.live x.proc).getD false)) y.val := fun y => by
          have h := live_lookJ (HX.out.2.2.1.below y.prop).own x.proc
          rwa [HM.out.2.1] at h
        have hnk : ∀ y : Bel wr, (Instr.lookup 67 (.map (some (w.heap.size + 1 + 1 + 1))) (.int .i64 x.proc) false).run Tryz.prog y.val = .ok (sV M (get M.now x.proc)) y.val := fun y => by
          have h := now_lookJ (HX.out.2.2.1.below y.prop).own x.proc
          rwa [HM.out.2.2] at h
        clear hst3 hsl hj5 HJS k56 k3 hlook
        generalize w.heap.size + 1 + 1 + 1 = NB at *
        generalize w.heap.size + 1 + 1 = LB at *
        generalize w.heap.size + 1 = TT at *
        generalize (get M.live x.proc).getD false = lv at *
        generalize sV M (get M.now x.proc) = sv at *
        rcases k124 with rfl | rfl | rfl
        all_goals
          go_upto_region 21 with (fail)
          refine wp_region_bel_tail 15 (by kernel_rfl) (by kernel_rfl) ?_
          simp only [List.take_succ_cons, List.take_zero, List.drop_succ_cons, List.drop_zero]
          repeat (go_big_quiet_step ((fail)))
          refine wpQuiet_nil ?_
          intro w3 hw3
          have HC3 := Lib.hid (HC.out w3 (bel_out hw3))
          clear hw3 HC e0 e1 hlk hnk
          go_wp2_with fail
          refine HC3.out.mono ?_
          rintro e w2 ⟨rfl, hE⟩
          have HEN := Lib.hid hE
          clear hE HC3
          go_wp2_with fail
          exact ⟨⟨j + 1, by have := HX.out.2.1; omega, by go_num, HEN⟩, by have := HX.out.2.1; simp [intOf]; omega⟩
      have hnk := now_lookJ (w := wr) HX.out.2.2.1.own x.proc
      rw [HM.out.2.2] at hnk
      have HC := Lib.hid (show Calls Tryz.prog 20 #[.pointer (some ⟨w.heap.size + 1, 0, none⟩), .int .i64 (j : Int), .pointer (some ⟨g, o + j * 19, none⟩), sV M (get M.now x.proc)] wr fun e w' => e = .returned (.tuple #[]) ∧ JTo wB g o l R (j + 1) H (thru l nm (j + 1)) w' from by
        have h := upper_any HX.out.2.2.1 HT.out.1 HX.out.2.2.2.2.1 hj5 j x HX.out.1 _ hsl
        rw [HM.out.1] at h
        exact h.mono fun e w' ⟨h1, h2⟩ => ⟨h1, HJS.out w' (by rw [hst3, if_neg k3, if_neg k124]; exact h2)⟩)
      have y1 : wr.cell? ⟨g, o + j * 19 + 1, none⟩ = some (.int .i64 x.proc) := e1 ⟨wr, br wr⟩
      have d5 : (kd == 5) = false := by simp; omega
      have d6 : (kd == 6) = false := by simp; omega
      have d3 : (kd == 3) = false := by simp; omega
      have d1 : (kd == 1) = false := by simp; omega
      have d2 : (kd == 2) = false := by simp; omega
      have d4 : (kd == 4) = false := by simp; omega
      clear hst3 hsl hj5 HJS k56 k3 k124 hlook e1
      generalize w.heap.size + 1 + 1 + 1 = NB at *
      generalize w.heap.size + 1 + 1 = LB at *
      generalize w.heap.size + 1 = TT at *
      generalize sV M (get M.now x.proc) = sv at *
      go_wp2_with fail
      refine HC.out.mono ?_
      rintro e w2 ⟨rfl, hE⟩
      have HEN := Lib.hid hE
      clear hE HC hnk y1 e0 d5 d6 d3 d1 d2 d4
      go_wp2_with fail
      exact ⟨⟨j + 1, by have := HX.out.2.1; omega, by go_num, HEN⟩, by have := HX.out.2.1; simp [intOf]; omega⟩
    · have hd : decide ((j : Int) < (n : Int)) = false := by simpa using hlt
      have hd2 : decide (j < n) = false := by simpa using hlt
      have HF := Lib.hid (show JTo wB g o l R n H (thru l nm n) wr from by
        rw [show n = j by omega]
        exact HW.out)
      have hHT : w.heap.size + 1 = H.T := by rw [HH.out]; rfl
      clear HW HE hmm
      go_wp2_with fail
      go_ret
      exact ⟨H, ⟨by rw [← hHT]; rfl, by rw [HH.out]; rfl⟩, HF.out⟩

theorem vrun_le (l : List Ev) (nm : Nat → List NameK) : ∀ n, (vrun l nm n).1.length ≤ n
  | 0 => Nat.le_refl _
  | n + 1 => by
    exact (vrun_ok l nm (n + 1)).2.1
/-- what is said of a trace's views -/
noncomputable def viewsJ (l : List Ev) (nm : Nat → List NameK) (n : Nat) : Int :=
  (svRun l nm (thru l nm l.length).stays (vplaces l nm) (castRun l nm (chRun l nm n (thru l nm l.length).named (vplaces l nm).length).1 l.length).1 (thru l nm l.length).stays.length).1
set_option maxRecDepth 100000 in
set_option maxHeartbeats 8000000 in
theorem viewsJ_any {wB w : World} {g o : Nat} {l : List Ev} {nm : Nat → List NameK} {R : List Pc} (h : At wB R w) (hT : Tr wB g o l nm) (ad : Option Addr) (had : 0 < l.length → ad = some ⟨g, o, none⟩) (cap : Nat) (hcap : l.length ≤ cap) (hl : l.length ≤ 500) (hv : VwOk l) (hTab : Tab wB) (k : Nat) (k0 : 0 < k) (hk : k ≤ 64) :
    Calls Tryz.prog 8 #[.slice ad l.length cap, .int .i64 (k : Int)] w fun e w' => e = .returned (.int .i64 (viewsJ l nm k)) ∧ At wB R w' := by
  have HR := Lib.hid (through_cap h hT ad had cap (by omega))
  have HT := Lib.hid (And.intro hT (And.intro hl (And.intro hv (And.intro hTab hcap))))
  obtain ⟨t, ht⟩ : ∃ t, t = thru l nm l.length := ⟨_, rfl⟩
  have hso : SOk t := by rw [ht]; exact sok_thru _
  obtain ⟨fin, hfin⟩ : ∃ f, f = viewsJ l nm k := ⟨_, rfl⟩
  rw [← hfin]
  unfold viewsJ at hfin
  rw [← ht] at HR hfin
  have HF := Lib.hid (And.intro hfin hso)
  clear h hT had hl hv hTab hcap ht hfin hso
  generalize hln : l.length = ln at *
  have HLN := Lib.hid hln
  clear hln
  go_enter Tryz.func8, Tryz.ntmps8
  go_wp2_with fail
  refine HR.out.mono ?_
  rintro e w1 ⟨H, ⟨rfl, hlc⟩, M, hA, hJ, hP, hH⟩
  obtain ⟨TT, hTT⟩ : ∃ T, T = H.T := ⟨_, rfl⟩
  have hTM : M.h.T = TT := by rw [hTT, hH]
  have hst : M.stays.map (·.s) = t.stays := congrArg J.stays hP
  have hnam : M.named = t.named := congrArg J.named hP
  have hz : JZ wB g o l R ln M t.named w1 := ⟨projJ M, M.bad, by rw [← hnam]; exact hA, by rw [← hnam]; exact hJ, by rw [← hnam]; rfl⟩
  have HA := Lib.hid (chain_gen hz HT.out.1 (by rw [HLN.out]; exact HT.out.2.1) HT.out.2.2.1 HT.out.2.2.2.1 k k0 hk)
  have HM := Lib.hid (And.intro hTM (And.intro hst (show l.length ≤ M.h.lc from by rw [hH, hlc, HLN.out]; exact HT.out.2.2.2.2)))
  rw [hTM] at HA
  rw [← hTT]
  clear hA hJ hP hH hTT hTM hst hnam HR hz hlc
  go_wp2_with fail
  refine HA.out.mono ?_
  rintro e w2 ⟨a2, c2, rfl, h2⟩
  have HC := Lib.hid (cast_gen h2 HT.out.1 (by rw [HLN.out]; exact HT.out.2.1) HM.out.2.2)
  rw [HM.out.1] at HC
  clear h2 HA
  obtain ⟨vl, hvl⟩ : ∃ x, x = (vplaces l nm).length := ⟨_, rfl⟩
  have HVL := Lib.hid hvl
  rw [← hvl]
  clear hvl
  go_wp2_with fail
  refine HC.out.mono ?_
  rintro e w3 ⟨rfl, h3⟩
  have HS := Lib.hid (survive_gen h3 HT.out.1 HT.out.2.2.1 (by have := HT.out.2.1; omega) (fun j hj => (vplaces_mem hj).1) (by rw [vplaces_len]; exact Nat.le_trans (vrun_le l nm l.length) (by rw [HLN.out]; exact HT.out.2.1)) (by rw [HM.out.2.1]; exact HF.out.2.bf) (by rw [HM.out.2.1]; exact HF.out.2.rv))
  rw [HM.out.1, ← HVL.out] at HS
  clear h3 HC
  go_wp2_with fail
  refine HS.out.mono ?_
  rintro e w4 ⟨rfl, h4⟩
  have h5 := h4.drop (Q := [allPc _ _ _])
  rw [HM.out.2.1] at h5
  have hle : M.stays.length = t.stays.length := by rw [← HM.out.2.1, List.length_map]
  rw [hle] at h5
  obtain ⟨u, bd, g1, g2, g3⟩ := h5
  have c3 : w4.cell? ⟨TT, 3, none⟩ = some (.int .i64 fin) := by
    have := tcell g1.own 3 (v := .int .i64 (svRun l nm t.stays (vplaces l nm) (castRun l nm (chRun l nm k t.named vl).1 l.length).1 t.stays.length).1) rfl ⟨w4, br w4⟩
    rw [show ((M.nd (svRun l nm t.stays (vplaces l nm) (castRun l nm (chRun l nm k t.named vl).1 l.length).1 t.stays.length).1).bd bd).h.T = TT from HM.out.1] at this
    rw [this, HF.out.1, HVL.out, HLN.out]
  have HE := Lib.hid (show At wB R w4 from ⟨g1.own.sub (List.sublist_append_right _ _), g1.bel⟩)
  clear g1 g2 g3 hle h4 HS
  go_wp2_with fail
  go_ret
  exact ⟨rfl, HE.out⟩
end Go.Proofs.YtogagkgkmoppmaaGreatDoor
