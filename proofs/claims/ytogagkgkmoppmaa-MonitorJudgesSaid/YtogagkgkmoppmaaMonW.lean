/-
  Add, by the kind of event.
  Conditions: those that each theorem names.
-/
import Derived.Test.YtogagkgkmoppmaaMonU
import Derived.Test.YtogagkgkmoppmaaMonV
import Derived.Test.YtogagkgkmoppmaaMonI
namespace Go.Proofs.Ytogagkgkmoppmaa
set_option linter.unusedVariables false
set_option linter.unusedSimpArgs false
open Go.RowKit GM
/-- a start, a stop -/
def pstart (P : PM) (x : Ev) : PM := { P with live := fun i => if i = x.proc then decide (x.kind = 5) else P.live i, now := fun i => if i = x.proc then none else P.now i }
def ptrans (P : PM) (x : Ev) : PM := match pstay P x with
  | none => P.br 1 true
  | some k => match P.stays[k]? with
    | none => P
    | some s => { P.br 1 s.tr.isSome with stays := P.stays.set k { s with tr := some (next x, x.mem) } }
def pkind (P : PM) (x : Ev) : PM :=
  if x.kind = 5 ∨ x.kind = 6 then pstart P x else
  if x.kind = 3 then pregular P x else
  if x.kind = 1 then psend P x else
  if x.kind = 2 then pdeliver P x else
  if x.kind = 4 then ptrans P x else P
def pmark (P : PM) : PM := if 0 < P.broken ∧ P.at_ = 0 then { P with at_ := P.len, rule := P.broken } else P
def padd (P : PM) (x : Ev) : PM := pmark (pkind { P with len := P.len + 1 } x)
def MM.start (M : MM) (x : Ev) : MM := { M with live := put M.live x.proc (decide (x.kind = 5)), now := del M.now x.proc }
theorem proj_start (M : MM) (x : Ev) : proj (M.start x) = pstart (proj M) x := by
  have h1 : (proj (M.start x)).live = fun i => if i = x.proc then decide (x.kind = 5) else (proj M).live i := by
    funext i
    show (get (put M.live x.proc _) i).getD false = _
    rw [get_put]
    split <;> rfl
  have h2 : (proj (M.start x)).now = fun i => if i = x.proc then none else (proj M).now i := by
    funext i
    show get (del M.now x.proc) i = _
    rw [get_del]
    rfl
  unfold pstart
  rw [← h1, ← h2]
  rfl
def wayS (x : SX) (X : Nat) (e : Ev) : SX := { x with s := { x.s with tr := some X }, ev := e }
theorem wayS_proj (y : SX) (X : Nat) (x : Ev) : projS (wayS y X x) = { projS y with tr := some (next x, x.mem) } := rfl
theorem start_ok {M : MM} (h : MOk M) (x : Ev) : MOk (M.start x) := ⟨h.n, fun p hp => h.now p (List.mem_filter.1 hp).1⟩
theorem own_live_put {w w' : World} {B b0 : Nat} {M : MM} {R : List Pc} (h : Own w b0 (parts B M ++ R)) (hb0 : b0 ≤ w.heap.size) (i : Int) (b : Bool) (hg : GMap intV w' M.c.lb (put (vals (fun b : Bool => Value.bool b) M.live) i (.bool b))) (hgr : w.grownBy w' (some M.c.lb)) :
    Own w' b0 (parts B { M with live := put M.live i b } ++ R) ∧ Kept (fun k => b0 ≤ k) w w' := by
  rw [put_vals (fun b : Bool => Value.bool b)] at hg
  exact own_at 4 (livePc { M with live := put M.live i b }) h hb0 (p := livePc M) rfl ((Kept.of_grown hgr).more (fun k _ e => by rw [e]; rfl)) hg (fun b e => .inl e)
theorem own_now_del {w w' : World} {B b0 : Nat} {M : MM} {R : List Pc} (h : Own w b0 (parts B M ++ R)) (hb0 : b0 ≤ w.heap.size) (i : Int) (hg : GMap intV w' M.c.nb (del (vals (nthV M.stays) M.now) i)) (hgr : w.grownBy w' (some M.c.nb)) :
    Own w' b0 (parts B { M with now := del M.now i } ++ R) ∧ Kept (fun k => b0 ≤ k) w w' := by
  rw [del_vals] at hg
  exact own_at 5 (nowPc { M with now := del M.now i }) h hb0 (p := nowPc M) rfl ((Kept.of_grown hgr).more (fun k _ e => by rw [e]; rfl)) hg (fun b e => .inl e)
theorem reads_more {w : World} {B B' s n : Nat} {ad : Option Addr} {xs : List Value} (h : Reads w B s ad n xs) (hb : B ≤ B') : Reads w B' s ad n xs :=
  ⟨h.1, fun hn => by
    obtain ⟨p, e, hp, hc⟩ := h.2 hn
    exact ⟨p, e, Nat.lt_of_lt_of_le hp hb, hc⟩⟩
theorem msgT_of_own {w : World} {B : Nat} {m : Msg} (ho : w.ownsRow B 31 1 (.slice m.da m.ds.length m.dc) m.ds.length (numsM m.ds)) (hl : m.ds.length ≤ 9223372036854775807) : MsgT w m := by
  refine ⟨⟨fun i hi => ?_, hl⟩, fun B' O e h0 => ?_⟩
  · obtain ⟨g, cap, hv, hg0, hg1⟩ := ho.form (by omega)
    injection hv with e1 e2 e3
    refine ⟨g, 0, e1, hg1, ?_⟩
    have := ho.cells (g := g) (by rw [e1]; rfl) i (.int .u32 (m.ds[i] : Int)) (by unfold numsM; rw [List.getElem?_map, List.getElem?_eq_getElem hi]; rfl)
    rw [← this]
    congr 1
    unfold Addr.add
    split <;> simp_all
  · obtain ⟨g, c, hv, hg0, hg1⟩ := ho.form (by omega)
    injection hv with e1 e2 e3
    rw [e] at e1
    injection e1 with e1
    injection e1 with e4 e5 e6
    obtain ⟨c, fz, hc⟩ := Lib.ownsRow_kind ho g (by rw [e, e4]; rfl)
    exact ⟨c, fz, by rw [e4]; exact hc⟩
theorem Res.from {w w4 w' : World} {B b0 n : Nat} {R : List Pc} {P : PM} (h : Res w4 B b0 R P n w') (hk : Kept (fun k => b0 ≤ k) w w4) : Res w B b0 R P n w' := by
  obtain ⟨M', h1, h2, h3, h4⟩ := h
  exact ⟨M', ⟨h1.own, hk.trans h1.kept, h1.low⟩, h2, h3, h4⟩
def lenM (M : MM) : MM := { M with c := { M.c with len := M.c.len + 1 } }
def cloned (x : Ev) (ad : Option Addr) (cap : Nat) : Ev := { x with m := { x.m with da := ad, dc := cap } }
theorem padd_cloned (P : PM) (x : Ev) (ad : Option Addr) (cap : Nat) : padd P (cloned x ad cap) = padd P x := rfl
set_option maxRecDepth 100000 in
set_option maxHeartbeats 16000000 in
theorem add_any (w : World) (B b0 n : Nat) (M : MM) (R : List Pc) (hO : Own w b0 (parts B M ++ R)) (hM : MOk M) (hb0 : b0 ≤ w.heap.size) (hS : Sz n M) (hn : n ≤ 9999) (hlen : 0 ≤ M.c.len ∧ M.c.len ≤ 10000) (x : Ev) (hds : ∀ q ∈ x.m.ds, q < 4294967296) (hdl : x.m.ds.length ≤ 35184372087808) (hrd : Reads w w.heap.size 1 x.m.da x.m.ds.length (numsM x.m.ds)) :
    Calls Try.prog 9 #[.pointer (some ⟨B, 0, none⟩), .agg (evA x)] w fun e w' => e = .returned (.int .i64 (padd (proj M) x).broken) ∧ Res w B b0 R (padd (proj M) x) (n + 1) w' := by
  obtain ⟨w1, hw1⟩ : ∃ w1, w1 = w.alloc (.cells (evA x) 39) := ⟨_, rfl⟩
  have hb1 : Below w.heap.size w w1 := by rw [hw1]; exact ba (br w) _
  have hx1 : w1.heap[w.heap.size]? = some (.cells (evA x) 39 (0, 0)) := by rw [hw1]; exact heap_alloc_new w _
  obtain ⟨X, hX⟩ : ∃ X, X = w.heap.size := ⟨_, rfl⟩
  have HX0 := Lib.hid hX
  rw [← hX] at hx1
  have e11 : w1.cell? ⟨X, 11, none⟩ = some (.slice x.m.da x.m.ds.length x.m.dc) := cell_of_row _ _ 11 _ _ _ hx1
  have HC := Lib.hid (clone32_any x.m.da x.m.ds x.m.dc w1 (reads_more (hrd.below hb1) hb1.size) hdl)
  have H0 := Lib.hid (And.intro hO (And.intro hb0 (And.intro hb1 (And.intro hx1 (And.intro hM (And.intro hS (And.intro hn (And.intro hlen (And.intro hds hdl)))))))))
  obtain ⟨cx, hcx⟩ : ∃ cx, cx = evA x := ⟨_, rfl⟩
  have z1 : cx.all (·.oneCell') = true := by rw [hcx]; simp [evA, Value.oneCell']
  have z2 : cx.size = 19 := by rw [hcx]; rfl
  rw [← hcx] at hw1 ⊢
  clear hcx hO hM hb0 hS hn hlen hds hdl hrd hb1 hx1
  generalize hdlen : x.m.ds.length = dl at *
  have HDL := Lib.hid hdlen
  clear hdlen
  go_enter Try.func9, Try.ntmps9
  go_upto_region 1 with (fail)
  rw [← hw1, ← hX]
  clear hw1 hX z1 z2
  go_wp2_with fail
  refine HC.out.mono ?_
  rintro e w2 ⟨⟨ad, cap, rfl, ho⟩, hb2⟩
  obtain ⟨hO, hb0, hb1, hx1, hM, hS, hn, hlen, hds, hdl⟩ := H0.out
  rw [HDL.out] at ho ⊢
  have hx2 : w2.heap[X]? = some (.cells (evA x) 39 (0, 0)) := (hb2.block _ (Array.getElem?_eq_some_iff.1 hx1).1).trans hx1
  have hx3 := setCell_block hx2 11 (.slice ad dl cap)
  obtain ⟨w3, hw3⟩ : ∃ w3, w3 = w2.setCell ⟨X, 11, none⟩ (.slice ad dl cap) := ⟨_, rfl⟩
  obtain ⟨y, hy⟩ : ∃ y, y = cloned x ad cap := ⟨_, rfl⟩
  have hev : EvAt w3 X y := by
    rw [hw3, hy]
    unfold EvAt
    rw [hx3, ← HDL.out]
    rfl
  have hXb : X = w.heap.size := HX0.out
  have hbw : Below w.heap.size w w3 := by
    rw [hw3]
    exact bs (bt hb1 hb2) (p := ⟨X, 11, none⟩) (by show w.heap.size ≤ X; omega) _
  have hmy : MsgT w3 y.m := by
    rw [hy]
    refine msgT_of_own (B := 0) ?_ (by show x.m.ds.length ≤ _; rw [HDL.out]; omega)
    show w3.ownsRow 0 31 1 (.slice ad x.m.ds.length cap) x.m.ds.length (numsM x.m.ds)
    rw [HDL.out, hw3]
    refine own_keptS (ownMore ho (Nat.zero_le _)) (keptS w2 ⟨X, 11, none⟩ _) (fun b e h => ?_)
    have h : b = X := h
    have h1 := (ho.lt b e).1
    have h2 := (Array.getElem?_eq_some_iff.1 hx1).1
    omega
  have H3 := Lib.hid (show Now w B b0 M (evPc X y :: msgPc y.m :: R) w3 from by
    refine ⟨?_, .of_below hbw, Nat.le_trans hb0 hbw.size⟩
    have h1 := (own_new (msgPc y.m) hO hb0 hbw hmy (fun _ h => by cases h)).mid1
    exact (own_new (evPc X y) h1 (Nat.le_trans hb0 hbw.size) (br _) hev (fun _ h => by cases h)).mid1)
  have HM := Lib.hid (And.intro hM (And.intro hS (And.intro hn (And.intro hlen (show ∀ q ∈ y.m.ds, q < 4294967296 from by rw [hy]; exact hds)))))
  have HY := Lib.hid hy
  have f11 : w2.frozen? ⟨X, 11, none⟩ = false := frozen_of_row _ _ _ _ _ hx2
  have g11 : w2.cell? ⟨X, 11, none⟩ = some (.slice x.m.da x.m.ds.length x.m.dc) := cell_of_row _ _ 11 _ _ _ hx2
  clear hO hb0 hb1 hx1 hM hS hn hlen hds hdl ho hb2 hx2 hx3 hev hXb hbw hmy hy H0 HC HX0
  go_upto_region 2 with (fail)
  rw [← hw3]
  clear hw3 f11 g11 e11
  -- one more
  have hmon := own_mon H3.out.own
  have f7 : w3.frozen? ⟨B, 7, none⟩ = false := frozen_of_row _ _ _ _ _ hmon
  have g7 : w3.cell? ⟨B, 7, none⟩ = some (.int .i64 M.c.len) := cell_of_row _ _ 7 _ _ _ hmon
  obtain ⟨w4, hw4⟩ : ∃ w4, w4 = w3.setCell ⟨B, 7, none⟩ (.int .i64 (M.c.len + 1)) := ⟨_, rfl⟩
  have H4 := Lib.hid (show Now w B b0 (lenM M) (evPc X y :: msgPc y.m :: R) w4 from by
    have h := own_nums (w' := w4) H3.out.own H3.out.low (by rw [hw4]; exact keptS w3 ⟨B, 7, none⟩ _) (b := M.c.broken) (l := M.c.len + 1) (a := M.c.at_) (r := M.c.rule) (by
      rw [hw4]
      exact setCell_block hmon 7 _)
    exact H3.out.next h.1 h.2)
  have hl0 := HM.out.2.2.2.1
  obtain ⟨ln, hln⟩ : ∃ ln, ln = M.c.len := ⟨_, rfl⟩
  rw [← hln] at g7 hw4 hl0
  have hwr : IntKind.i64.wrap (ln + 1) = ln + 1 := IntWalk.i64_in _ (by omega)
  obtain ⟨hl1, hl2⟩ := hl0
  clear hmon H3 hln
  go_upto_region 3 with (fail)
  rw [← hw4]
  clear hw4 f7 g7 hwr
  have hev : EvAt w4 X y := own_r H4.out.own (p := evPc X y) (by simp)
  have x0 := at0 (ecell hev 0 (v := .int .i64 y.kind) rfl)
  clear hev
  go_upto_block 0 with (fail)
  clear x0
  have HMO := Lib.hid (show MOk (lenM M) ∧ Sz n (lenM M) ∧ Sz (n + 1) (lenM M) from by
    have h := HM.out.2.1
    have h' := h.more (Nat.le_succ n)
    exact ⟨⟨HM.out.1.n, HM.out.1.now⟩, ⟨h.stays, h.rows, h.cnt, h.sent⟩, ⟨h'.stays, h'.rows, h'.cnt, h'.sent⟩⟩)
  obtain ⟨M0, hM0⟩ : ∃ M0, M0 = lenM M := ⟨_, rfl⟩
  rw [← hM0] at H4 HMO
  have HM0 := Lib.hid hM0
  clear hM0
  obtain ⟨cy, hcy⟩ : ∃ cy, cy = evA y := ⟨_, rfl⟩
  have HXX := Lib.hid (show w4.heap[X]? = some (.cells cy 39 (0, 0)) from by rw [hcy]; exact own_r H4.out.own (p := evPc X y) (by simp))
  have HII := Lib.hid (show (Try.prog.info? 39).map (·.size) = some cy.size from by rw [hcy]; exact evInfo)
  have HCY := Lib.hid hcy
  clear hcy
  go_cut [5, 20] (fun s5 s20 wx => Res w B b0 (evPc X y :: msgPc y.m :: R) (pkind (proj M0) y) (n + 1) wx)
  case first =>
    obtain ⟨kd, hkd⟩ : ∃ kd, kd = y.kind := ⟨_, rfl⟩
    rw [← hkd]
    have HKD := Lib.hid hkd
    have HPK := Lib.hid (show pkind (proj M0) y = if kd = 5 ∨ kd = 6 then pstart (proj M0) y else if kd = 3 then pregular (proj M0) y else if kd = 1 then psend (proj M0) y else if kd = 2 then pdeliver (proj M0) y else if kd = 4 then ptrans (proj M0) y else proj M0 from by rw [hkd]; rfl)
    clear hkd
    by_cases h56 : kd = 5 ∨ kd = 6
    · rcases h56 with rfl | rfl
      · have hev : EvAt w4 X y := own_r H4.out.own (p := evPc X y) (by simp)
        have c4 := mcell H4.out.own 4 (v := .map (some M0.c.lb)) rfl
        have x0 := ecell hev 0 (v := .int .i64 5) (by show some (Value.int .i64 y.kind) = _; rw [← HKD.out])
        have x1 := ecell hev 1 (v := .int .i64 y.proc) rfl
        have hpk : pkind (proj M0) y = pstart (proj M0) y := by rw [HPK.out, if_pos (Or.inl rfl)]
        have HPK2 := Lib.hid hpk
        clear hev hpk HPK
        go_wp2_with fail
        refine wp_region_bel_tail 9 (by kernel_rfl) (by kernel_rfl) ?_
        simp only [List.take_succ_cons, List.take_zero, List.drop_succ_cons, List.drop_zero]
        repeat (go_big_quiet_step ((fail)))
        refine wpQuiet_nil ?_
        intro wa hwa
        have Na := H4.out.below (bel_out hwa)
        obtain ⟨wb, hrun, hg, hgr, hsz⟩ := (own_live Na.own).update (P := Try.prog) Try.underlying51 intLaw y.proc (.bool true)
        have Nb := own_live_put Na.own Na.low y.proc true hg hgr
        have HNb := Lib.hid (Na.next Nb.1 Nb.2)
        have hrun : (Instr.mapUpdate 51 (.map (some M0.c.lb)) (.int .i64 y.proc) (.bool true)).run Try.prog wa = .ok () wb := hrun
        clear hwa c4 x0 x1 Na hg hgr hsz Nb
        go_wp2_with fail
        clear hrun
        have hev : EvAt wb X y := own_r HNb.out.own (p := evPc X y) (by simp)
        have c5 := mcell HNb.out.own 5 (v := .map (some M0.c.nb)) rfl
        have x1 := ecell hev 1 (v := .int .i64 y.proc) rfl
        clear hev
        refine wp_region_bel_tail 6 (by kernel_rfl) (by kernel_rfl) ?_
        simp only [List.take_succ_cons, List.take_zero, List.drop_succ_cons, List.drop_zero]
        repeat (go_big_quiet_step ((fail)))
        refine wpQuiet_nil ?_
        intro wd hwd
        have Nd := HNb.out.below (bel_out hwd)
        obtain ⟨we, hrun, hg, hgr, hsz⟩ := (own_now Nd.own).drop (P := Try.prog) Try.underlying52 intLaw 0 y.proc
        have Ne := own_now_del Nd.own Nd.low y.proc hg hgr
        have HE := Lib.hid (show Res w B b0 (evPc X y :: msgPc y.m :: R) (pkind (proj M0) y) (n + 1) we from by
          rw [HPK2.out, ← proj_start]
          refine ⟨M0.start y, ?_, start_ok HMO.out.1 y, ⟨HMO.out.2.2.stays, HMO.out.2.2.rows, HMO.out.2.2.cnt, HMO.out.2.2.sent⟩, rfl⟩
          have h := Nd.next Ne.1 Ne.2
          have hb : decide (y.kind = 5) = true := by rw [← HKD.out]; rfl
          unfold MM.start
          rw [hb]
          exact h)
        have hrun : (Builtin.delete_ #[52, 3] 0 #[.map (some M0.c.nb), .int .i64 y.proc]).run Try.prog wd = .ok (.tuple #[]) we := hrun
        clear hwd c5 x1 Nd hg hgr hsz Ne HNb
        go_wp2_with fail
        go_meet
        exact HE.out
      · have hev : EvAt w4 X y := own_r H4.out.own (p := evPc X y) (by simp)
        have c4 := mcell H4.out.own 4 (v := .map (some M0.c.lb)) rfl
        have x0 := ecell hev 0 (v := .int .i64 6) (by show some (Value.int .i64 y.kind) = _; rw [← HKD.out])
        have x1 := ecell hev 1 (v := .int .i64 y.proc) rfl
        have hpk : pkind (proj M0) y = pstart (proj M0) y := by rw [HPK.out, if_pos (Or.inr rfl)]
        have HPK2 := Lib.hid hpk
        clear hev hpk HPK
        go_wp2_with fail
        refine wp_region_bel_tail 9 (by kernel_rfl) (by kernel_rfl) ?_
        simp only [List.take_succ_cons, List.take_zero, List.drop_succ_cons, List.drop_zero]
        repeat (go_big_quiet_step ((fail)))
        refine wpQuiet_nil ?_
        intro wa hwa
        have Na := H4.out.below (bel_out hwa)
        obtain ⟨wb, hrun, hg, hgr, hsz⟩ := (own_live Na.own).update (P := Try.prog) Try.underlying51 intLaw y.proc (.bool false)
        have Nb := own_live_put Na.own Na.low y.proc false hg hgr
        have HNb := Lib.hid (Na.next Nb.1 Nb.2)
        have hrun : (Instr.mapUpdate 51 (.map (some M0.c.lb)) (.int .i64 y.proc) (.bool false)).run Try.prog wa = .ok () wb := hrun
        clear hwa c4 x0 x1 Na hg hgr hsz Nb
        go_wp2_with fail
        clear hrun
        have hev : EvAt wb X y := own_r HNb.out.own (p := evPc X y) (by simp)
        have c5 := mcell HNb.out.own 5 (v := .map (some M0.c.nb)) rfl
        have x1 := ecell hev 1 (v := .int .i64 y.proc) rfl
        clear hev
        refine wp_region_bel_tail 6 (by kernel_rfl) (by kernel_rfl) ?_
        simp only [List.take_succ_cons, List.take_zero, List.drop_succ_cons, List.drop_zero]
        repeat (go_big_quiet_step ((fail)))
        refine wpQuiet_nil ?_
        intro wd hwd
        have Nd := HNb.out.below (bel_out hwd)
        obtain ⟨we, hrun, hg, hgr, hsz⟩ := (own_now Nd.own).drop (P := Try.prog) Try.underlying52 intLaw 0 y.proc
        have Ne := own_now_del Nd.own Nd.low y.proc hg hgr
        have HE := Lib.hid (show Res w B b0 (evPc X y :: msgPc y.m :: R) (pkind (proj M0) y) (n + 1) we from by
          rw [HPK2.out, ← proj_start]
          refine ⟨M0.start y, ?_, start_ok HMO.out.1 y, ⟨HMO.out.2.2.stays, HMO.out.2.2.rows, HMO.out.2.2.cnt, HMO.out.2.2.sent⟩, rfl⟩
          have h := Nd.next Ne.1 Ne.2
          have hb : decide (y.kind = 5) = false := by rw [← HKD.out]; rfl
          unfold MM.start
          rw [hb]
          exact h)
        have hrun : (Builtin.delete_ #[52, 3] 0 #[.map (some M0.c.nb), .int .i64 y.proc]).run Try.prog wd = .ok (.tuple #[]) we := hrun
        clear hwd c5 x1 Nd hg hgr hsz Ne HNb
        go_wp2_with fail
        go_meet
        exact HE.out
    by_cases h3 : kd = 3
    · subst h3
      have HC := Lib.hid (show Calls Try.prog 16 #[.pointer (some ⟨B, 0, none⟩), .agg cy] w4 fun e w' => e = .returned (.tuple #[]) ∧ Res w B b0 (evPc X y :: msgPc y.m :: R) (pkind (proj M0) y) (n + 1) w' from by
        rw [HCY.out, HPK.out, if_neg (by decide), if_pos rfl]
        exact (regular_res w4 B b0 n M0 _ H4.out.own HMO.out.1 H4.out.low HMO.out.2.1 HM.out.2.2.1 y).mono fun e w' ⟨h1, h2⟩ => ⟨h1, h2.from H4.out.kept⟩)
      clear h56 HPK
      go_wp2_with (first | (with_reducible refine wpList_load_row rfl 39 (.tmp 3) rfl X rfl 39 cy (0, 0) _ HXX.out Try.underlying39 rfl HII.out ?_) | fail)
      refine HC.out.mono ?_
      rintro e w5 ⟨rfl, hE⟩
      have HE := Lib.hid hE
      clear hE HC
      go_wp2_with fail
      go_meet
      exact HE.out
    by_cases h1 : kd = 1
    · subst h1
      have HC := Lib.hid (show Calls Try.prog 17 #[.pointer (some ⟨B, 0, none⟩), .agg cy] w4 fun e w' => e = .returned (.tuple #[]) ∧ Res w B b0 (evPc X y :: msgPc y.m :: R) (pkind (proj M0) y) (n + 1) w' from by
        rw [HCY.out, HPK.out, if_neg (by decide), if_neg (by decide), if_pos rfl]
        exact (send_any w4 B b0 n M0 _ H4.out.own HMO.out.1 H4.out.low HMO.out.2.1 HM.out.2.2.1 y (own_r H4.out.own (p := msgPc y.m) (by simp))).mono fun e w' ⟨h1, h2⟩ => ⟨h1, h2.from H4.out.kept⟩)
      clear h56 HPK
      go_wp2_with (first | (with_reducible refine wpList_load_row rfl 39 (.tmp 3) rfl X rfl 39 cy (0, 0) _ HXX.out Try.underlying39 rfl HII.out ?_) | fail)
      refine HC.out.mono ?_
      rintro e w5 ⟨rfl, hE⟩
      have HE := Lib.hid hE
      clear hE HC
      go_wp2_with fail
      go_meet
      exact HE.out
    by_cases h2 : kd = 2
    · subst h2
      have HC := Lib.hid (show Calls Try.prog 18 #[.pointer (some ⟨B, 0, none⟩), .agg cy] w4 fun e w' => e = .returned (.tuple #[]) ∧ Res w B b0 (evPc X y :: msgPc y.m :: R) (pkind (proj M0) y) (n + 1) w' from by
        rw [HCY.out, HPK.out, if_neg (by decide), if_neg (by decide), if_neg (by decide), if_pos rfl]
        exact (deliver_any w4 B b0 n M0 _ H4.out.own HMO.out.1 H4.out.low HMO.out.2.1 HM.out.2.2.1 y (own_r H4.out.own (p := msgPc y.m) (by simp)) HM.out.2.2.2.2).mono fun e w' ⟨h1, h2⟩ => ⟨h1, h2.from H4.out.kept⟩)
      clear h56 HPK
      go_wp2_with (first | (with_reducible refine wpList_load_row rfl 39 (.tmp 3) rfl X rfl 39 cy (0, 0) _ HXX.out Try.underlying39 rfl HII.out ?_) | fail)
      refine HC.out.mono ?_
      rintro e w5 ⟨rfl, hE⟩
      have HE := Lib.hid hE
      clear hE HC
      go_wp2_with fail
      go_meet
      exact HE.out
    by_cases h4 : kd = 4
    · subst h4
      have hpk : pkind (proj M0) y = ptrans (proj M0) y := by rw [HPK.out, if_neg (by decide), if_neg (by decide), if_neg (by decide), if_neg (by decide), if_pos rfl]
      have hC := stay_any w4 B b0 M0 (evPc X y :: msgPc y.m :: R) H4.out.own HMO.out.1 H4.out.low y
      rw [← HCY.out] at hC
      have HC := Lib.hid hC
      have HPK2 := Lib.hid hpk
      clear h56 HPK hC hpk
      go_wp2_with (first | (with_reducible refine wpList_load_row rfl 39 (.tmp 3) rfl X rfl 39 cy (0, 0) _ HXX.out Try.underlying39 rfl HII.out ?_) | fail)
      refine HC.out.mono ?_
      clear HC
      intro e w5 h
      rcases h with ⟨k, hk, hs, rfl, hb⟩ | ⟨hs, rfl, hO, hK⟩
      rotate_left
      · have HE := Lib.hid (show Res w B b0 (evPc X y :: msgPc y.m :: R) (pkind (proj M0) y) (n + 1) w5 from by
          rw [HPK2.out]
          unfold ptrans
          rw [← stayOf_proj, hs]
          exact ⟨_, H4.out.next hO hK, br_ok HMO.out.1 _ _, ⟨HMO.out.2.2.stays, HMO.out.2.2.rows, HMO.out.2.2.cnt, HMO.out.2.2.sent⟩, rfl⟩)
        clear hs hO hK
        go_wp2_with fail
        go_meet
        exact HE.out
      have N5 := H4.out.below hb
      have hSo := own_stay N5.own (List.getElem_mem hk)
      have hps : pkind (proj M0) y = { (proj M0).br 1 M0.stays[k].s.tr.isSome with stays := (proj M0).stays.set k { projS M0.stays[k] with tr := some (next y, y.mem) } } := by
        rw [HPK2.out]
        unfold ptrans
        rw [← stayOf_proj, hs]
        simp only [show (proj M0).stays[k]? = some (projS M0.stays[k]) from by simp [proj, hk], tr_isSome]
      have HBR := Lib.hid (Now.breaks (M := M0) (z := M0.c.broken) N5 1)
      have HPS := Lib.hid hps
      have HKK := Lib.hid hk
      have t7 := at0 (scell hSo 7 (v := .pointer (M0.stays[k].s.tr.map fun b => ⟨b, 0, none⟩)) rfl)
      clear hs hps hSo N5 HPK2
      unfold ptrV
      have HFIN := Lib.hid (show ∀ (b : Bool) (w6 : World), b = M0.stays[k].s.tr.isSome → Now w B b0 (M0.bz (brk 1 M0.c.broken b)) (evPc X y :: msgPc y.m :: R) w6 → StAt w6 M0.stays[k].b M0.stays[k].s ∧ Res w B b0 (evPc X y :: msgPc y.m :: R) (pkind (proj M0) y) (n + 1) (w6.setCell ⟨M0.stays[k].b, 7, none⟩ (.pointer (some ⟨X, 0, none⟩))) from fun b w6 hbb h6 => by
        have hk' : k < (M0.bz (brk 1 M0.c.broken b)).stays.length := HKK.out
        have hst := own_stay h6.own (x := M0.stays[k]) (List.getElem_mem HKK.out)
        refine ⟨hst, ?_⟩
        have hev : EvAt w6 X y := own_r h6.own (p := evPc X y) (by simp)
        have hKs := keptS w6 ⟨M0.stays[k].b, 7, none⟩ (.pointer (some ⟨X, 0, none⟩))
        have h := own_cell (k := k) (w' := w6.setCell ⟨M0.stays[k].b, 7, none⟩ (.pointer (some ⟨X, 0, none⟩))) h6.own h6.low hk' (x := wayS M0.stays[k] X y) rfl rfl rfl rfl rfl hKs (setCell_block hst 7 _) (fun b' hb' => by
          injection hb' with hb'
          subst hb'
          refine hKs.keep hev ?_
          intro hX
          have hX : X = M0.stays[k].b := hX
          unfold EvAt at hev
          unfold StAt at hst
          rw [hX, hst] at hev
          injection hev with hev
          injection hev with _ hev _
          exact absurd hev (by decide))
        refine ⟨_, h6.next h.1 h.2, setS_ok (bz_ok HMO.out.1 _) _ _, ⟨by have h := HMO.out.2.2.stays; simpa [MM.setS, MM.bz] using h, fun z hz => ?_, fun z hz => ?_, HMO.out.2.2.sent⟩, ?_⟩
        · rcases List.mem_or_eq_of_mem_set hz with hz | rfl
          · exact HMO.out.2.2.rows z hz
          · exact HMO.out.2.2.rows M0.stays[k] (List.getElem_mem HKK.out)
        · rcases List.mem_or_eq_of_mem_set hz with hz | rfl
          · exact HMO.out.2.2.cnt z hz
          · exact HMO.out.2.2.cnt M0.stays[k] (List.getElem_mem HKK.out)
        · rw [proj_setS, wayS_proj, HPS.out, hbb]
          rfl)
      cases htr : M0.stays[k].s.tr with
      | none =>
        rw [htr] at t7 HFIN
        simp only [Option.map_none, Option.isSome_none] at t7 HFIN
        have HE := Lib.hid (HBR.out w5 (br _) false)
        clear htr HBR HPS
        generalize M0.stays[k].b = So at *
        go_wp2_with fail
        refine HE.out.mono ?_
        rintro e w6 ⟨rfl, hE⟩
        have hF := HFIN.out false w6 rfl hE
        have f7 : w6.frozen? ⟨So, 7, none⟩ = false := frozen_of_row _ _ _ _ _ hF.1
        have HF := Lib.hid hF.2
        have hg7 := cell_of_row _ _ 7 _ _ _ hF.1
        have g7 : ∃ v, w6.cell? ⟨So, 7, none⟩ = some v := ⟨_, hg7⟩
        obtain ⟨v7, g7⟩ := g7
        clear hE HE t7 hF hg7 HFIN
        go_wp2_with fail
        go_meet
        exact HF.out
      | some tb =>
        rw [htr] at t7 HFIN
        simp only [Option.map_some, Option.isSome_some] at t7 HFIN
        have HE := Lib.hid (HBR.out w5 (br _) true)
        clear htr HBR HPS
        generalize M0.stays[k].b = So at *
        go_wp2_with fail
        refine HE.out.mono ?_
        rintro e w6 ⟨rfl, hE⟩
        have hF := HFIN.out true w6 rfl hE
        have f7 : w6.frozen? ⟨So, 7, none⟩ = false := frozen_of_row _ _ _ _ _ hF.1
        have HF := Lib.hid hF.2
        have hg7 := cell_of_row _ _ 7 _ _ _ hF.1
        have g7 : ∃ v, w6.cell? ⟨So, 7, none⟩ = some v := ⟨_, hg7⟩
        obtain ⟨v7, g7⟩ := g7
        clear hE HE t7 hF hg7 HFIN
        go_wp2_with fail
        go_meet
        exact HF.out
    · have d5 : (kd == 5) = false := by simp; omega
      have d6 : (kd == 6) = false := by simp; omega
      have d3 : (kd == 3) = false := by simp; omega
      have d1 : (kd == 1) = false := by simp; omega
      have d2 : (kd == 2) = false := by simp; omega
      have d4 : (kd == 4) = false := by simp; omega
      have HE := Lib.hid (show Res w B b0 (evPc X y :: msgPc y.m :: R) (pkind (proj M0) y) (n + 1) w4 from by
        rw [HPK.out, if_neg h56, if_neg h3, if_neg h1, if_neg h2, if_neg h4]
        exact ⟨M0, H4.out, HMO.out.1, HMO.out.2.2, rfl⟩)
      clear h56 h3 h1 h2 h4 HPK
      go_wp2_with fail
      go_meet
      exact HE.out
  case rest =>
  obtain ⟨M5, N5, hM5, hS5, hP5⟩ := hcut
  obtain ⟨w5, rfl⟩ : ∃ z, z = wc := ⟨_, rfl⟩
  have H5 := Lib.hid N5
  have HP5 := Lib.hid (And.intro hM5 (And.intro hS5 hP5))
  clear N5 hM5 hS5 hP5 H4 HXX
  have HPA := Lib.hid (show padd (proj M) x = pmark (proj M5) from by
    rw [HP5.out.2.2, HM0.out, ← padd_cloned (proj M) x ad cap, ← HY.out]
    rfl)
  have HPB := Lib.hid (show (padd (proj M) x).broken = M5.c.broken from by
    rw [HPA.out]
    unfold pmark
    split <;> rfl)
  have hmon := own_mon H5.out.own
  have g6 : w5.cell? ⟨B, 6, none⟩ = some (.int .i64 M5.c.broken) := cell_of_row _ _ 6 _ _ _ hmon
  have g8 : w5.cell? ⟨B, 8, none⟩ = some (.int .i64 M5.c.at_) := cell_of_row _ _ 8 _ _ _ hmon
  have HMON := Lib.hid hmon
  clear hmon
  by_cases hbrk : 0 < M5.c.broken ∧ M5.c.at_ = 0
  · have HRES := Lib.hid (show ∀ w', MAt w' B { M5.c with at_ := M5.c.len, rule := M5.c.broken } → ∀ wd : World, Below w5.heap.size w5 wd → Kept (fun k => k = B) wd w' → Res w B b0 R (padd (proj M) x) (n + 1) w' from fun w' hc wd hbd hk => by
      have h := own_nums (w' := w') (H5.out.below hbd).own (H5.out.below hbd).low hk (b := M5.c.broken) (l := M5.c.len) (a := M5.c.len) (r := M5.c.broken) hc
      have hN := (H5.out.below hbd).next h.1 h.2
      refine ⟨_, hN.next (hN.own.drop (Q := [evPc X y, msgPc y.m])) (.refl _ _), ⟨HP5.out.1.n, HP5.out.1.now⟩, ⟨HP5.out.2.1.stays, HP5.out.2.1.rows, HP5.out.2.1.cnt, HP5.out.2.1.sent⟩, ?_⟩
      rw [HPA.out]
      unfold pmark
      rw [if_pos (show 0 < (proj M5).broken ∧ (proj M5).at_ = 0 from hbrk)]
      rfl)
    obtain ⟨h1, h2⟩ := hbrk
    rw [h2] at g8
    have d1 : decide (0 < M5.c.broken) = true := by simpa using h1
    clear h2 h1
    have HMK := Lib.hid (show ∀ wd : World, wd.heap[B]? = w5.heap[B]? → (wd.cell? ⟨B, 7, none⟩ = some (.int .i64 M5.c.len) ∧ wd.cell? ⟨B, 6, none⟩ = some (.int .i64 M5.c.broken)) from fun wd hd => by
      have hm := hd.trans HMON.out
      exact ⟨cell_of_row _ _ 7 _ _ _ hm, cell_of_row _ _ 6 _ _ _ hm⟩)
    have HML := Lib.hid (show ∀ wd : World, wd.heap[B]? = w5.heap[B]? → wd.frozen? ⟨B, 8, none⟩ = false ∧ (wd.cell? ⟨B, 8, none⟩ = some (.int .i64 M5.c.at_)) ∧
        ((wd.setCell ⟨B, 8, none⟩ (.int .i64 M5.c.len)).cell? ⟨B, 7, none⟩ = some (.int .i64 M5.c.len) ∧ (wd.setCell ⟨B, 8, none⟩ (.int .i64 M5.c.len)).cell? ⟨B, 6, none⟩ = some (.int .i64 M5.c.broken)) ∧
        (wd.setCell ⟨B, 8, none⟩ (.int .i64 M5.c.len)).frozen? ⟨B, 9, none⟩ = false ∧ (wd.setCell ⟨B, 8, none⟩ (.int .i64 M5.c.len)).cell? ⟨B, 9, none⟩ = some (.int .i64 M5.c.rule) ∧
        MAt ((wd.setCell ⟨B, 8, none⟩ (.int .i64 M5.c.len)).setCell ⟨B, 9, none⟩ (.int .i64 M5.c.broken)) B { M5.c with at_ := M5.c.len, rule := M5.c.broken } from fun wd hd => by
      have hm := hd.trans HMON.out
      have h8 := setCell_block hm 8 (.int .i64 M5.c.len)
      have h9 := setCell_block h8 9 (.int .i64 M5.c.broken)
      exact ⟨frozen_of_row _ _ _ _ _ hm, cell_of_row _ _ 8 _ _ _ hm, ⟨cell_of_row _ _ 7 _ _ _ h8, cell_of_row _ _ 6 _ _ _ h8⟩, frozen_of_row _ _ _ _ _ h8, cell_of_row _ _ 9 _ _ _ h8, h9⟩)
    have HRES2 := Lib.hid (show ∀ wd : World, Below w5.heap.size w5 wd → wd.heap[B]? = w5.heap[B]? → Res w B b0 R (padd (proj M) x) (n + 1) ((wd.setCell ⟨B, 8, none⟩ (.int .i64 M5.c.len)).setCell ⟨B, 9, none⟩ (.int .i64 M5.c.broken)) ∧ ((wd.setCell ⟨B, 8, none⟩ (.int .i64 M5.c.len)).setCell ⟨B, 9, none⟩ (.int .i64 M5.c.broken)).cell? ⟨B, 6, none⟩ = some (.int .i64 M5.c.broken) from fun wd hbd hd => by
      have hml := (HML.out wd hd).2.2.2.2.2
      exact ⟨HRES.out _ hml wd hbd ((keptS wd ⟨B, 8, none⟩ _).trans (keptS _ ⟨B, 9, none⟩ _)), cell_of_row _ _ 6 _ _ _ hml⟩)
    clear HRES
    generalize M5.c.broken = bk at *
    generalize M5.c.at_ = aa at *
    generalize M5.c.len = le at *
    generalize M5.c.rule = ru at *
    go_upto_region 20 with (fail)
    clear d1 g6 g8
    refine wp_region_mask (fun w' => w'.cell? ⟨B, 7, none⟩ = some (.int .i64 le) ∧ w'.cell? ⟨B, 6, none⟩ = some (.int .i64 bk)) 15 4 [true, true, true, true, true, true, true, true, true, true, true, true, false, false, false, false] #[true, true, true, true, true, true, true, true, true, true, true, true, false, false, false, false] (by kernel_rfl) (by kernel_rfl) (by kernel_rfl) (HMK.out _ rfl) ?_
    have HDR := Lib.hid (show Below w5.heap.size w5 w5.drew ∧ w5.drew.heap[B]? = w5.heap[B]? from ⟨(br w5).drew, rfl⟩)
    generalize w5.drew = W at *
    iterate 12
      refine wpMask_take _ (Or.inl ⟨by rfl, fun w' hS => by obtain ⟨h1, h2⟩ := hS; go_simp; try with_reducible rfl⟩) ?_
      simp only [Act.put, List.setIfInBounds_toArray, List.set_cons_zero, List.set_cons_succ]
    refine wpMask_skip (wpMask_skip (wpMask_skip (wpMask_skip (wpMask_nil ?_))))
    obtain ⟨f8, g8, hS8, f9, g9, _⟩ := HML.out W HDR.out.2
    have HS8 := Lib.hid hS8
    have HE := Lib.hid (HRES2.out W HDR.out.1 HDR.out.2)
    clear hS8
    refine wpAnyS_ready (rs := [12]) (by kernel_rfl) (by simp) ?_
    refine AllReadyS.cons rfl (fun T hT => ?_) AllReadyS.nil
    go_simp
    clear f8 g8
    generalize W.setCell ⟨B, 8, none⟩ (.int .i64 le) = W2 at *
    refine hT.out _ _ (fun _ => HS8.out) ?_
    clear hT T
    simp only [Act.put, List.setIfInBounds_toArray, List.set_cons_zero, List.set_cons_succ]
    refine wpAnyS_ready (rs := [13]) (by kernel_rfl) (by simp) ?_
    refine AllReadyS.cons rfl (fun T hT => ?_) AllReadyS.nil
    go_simp
    refine hT.out _ _ (fun _ => HS8.out) ?_
    clear hT T
    simp only [Act.put, List.setIfInBounds_toArray, List.set_cons_zero, List.set_cons_succ]
    refine wpAnyS_ready (rs := [14]) (by kernel_rfl) (by simp) ?_
    refine AllReadyS.cons rfl (fun T hT => ?_) AllReadyS.nil
    go_simp
    refine hT.out _ _ (fun _ => HS8.out) ?_
    clear hT T
    simp only [Act.put, List.setIfInBounds_toArray, List.set_cons_zero, List.set_cons_succ]
    refine wpAnyS_ready (rs := [15]) (by kernel_rfl) (by simp) ?_
    refine AllReadyS.cons rfl (fun T hT => ?_) AllReadyS.nil
    go_simp
    clear f9 g9
    generalize W2.setCell ⟨B, 9, none⟩ (.int .i64 bk) = W3 at *
    refine hT.out _ _ (fun h => absurd h (by omega)) ?_
    clear hT T
    simp only [Act.put, List.setIfInBounds_toArray, List.set_cons_zero, List.set_cons_succ]
    refine wpAnyS_done (by kernel_rfl) ?_ _
    have g6 := HE.out.2
    go_wp2_with fail
    go_ret
    exact ⟨ret_int HPB.out.symm, HE.out.1⟩
  · have HRES := Lib.hid (show Res w B b0 R (padd (proj M) x) (n + 1) w5 from by
      refine ⟨M5, H5.out.next (H5.out.own.drop (Q := [evPc X y, msgPc y.m])) (.refl _ _), HP5.out.1, HP5.out.2.1, ?_⟩
      rw [HPA.out]
      unfold pmark
      rw [if_neg (show ¬ (0 < (proj M5).broken ∧ (proj M5).at_ = 0) from hbrk)])
    have hcs : decide (0 < M5.c.broken) = false ∨ (decide (0 < M5.c.broken) = true ∧ (M5.c.at_ == 0) = false) := by
      by_cases h1 : 0 < M5.c.broken
      · exact .inr ⟨by simpa using h1, by simp; exact fun h => hbrk ⟨h1, h⟩⟩
      · exact .inl (by simpa using h1)
    clear hbrk
    generalize M5.c.broken = bk at *
    generalize M5.c.at_ = aa at *
    rcases hcs with h1 | ⟨h1, h2⟩
    · go_wp2_with fail
      go_ret
      exact ⟨ret_int HPB.out.symm, HRES.out⟩
    · go_wp2_with fail
      go_ret
      exact ⟨ret_int HPB.out.symm, HRES.out⟩
end Go.Proofs.Ytogagkgkmoppmaa
