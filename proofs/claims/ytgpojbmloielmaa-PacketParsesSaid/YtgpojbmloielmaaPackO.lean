/-
  What packet.Clean returns: what its kind names, in memory of its own.
  Conditions: those that each theorem names.
-/
import Derived.Test.YtgpojbmloielmaaPackN
import Derived.Test.YtgpojbmloielmaaMaskB
namespace Go.Proofs.Ytgpojbmloielmaa
set_option linter.unusedVariables false
set_option linter.unusedSimpArgs false
open Go.RowKit
def selZ (p : Pkt) : Pkt := { zeroP with kind := p.kind, frm := p.frm, dst := p.dst }
def selC (p : Pkt) : Pkt := { selZ p with ce := p.ce, cr := p.cr }
/-- what a packet's kind names -/
def selP (p : Pkt) : Pkt :=
  if p.kind < 1 ∨ 11 < p.kind then selZ p
  else if p.kind = 1 then { selC p with m := { p.m with frm := p.frm } }
  else if p.kind = 2 then { selC p with stamp := p.stamp, sent := p.sent, got := p.got, ga := p.ga, gc := p.gc, hor := p.hor }
  else if p.kind = 3 ∨ p.kind = 8 then { selC p with whom := p.whom, seq := p.seq }
  else if p.kind = 4 then { selC p with pe := p.pe, pr := p.pr, epoch := p.epoch, mem := p.mem }
  else if p.kind = 5 then { selC p with mem := p.mem }
  else if p.kind = 6 then { selC p with xs := p.xs, xa := p.xa, xc := p.xc }
  else if p.kind = 7 then { selC p with mem := p.mem, xs := p.xs, xa := p.xa, xc := p.xc }
  else if p.kind = 9 then { selC p with whom := p.whom, m := { p.m with frm := p.whom } }
  else selC p
theorem NumsOk.nil (w : World) : NumsOk w none [] := ⟨by simp, fun i h => absurd h (by simp)⟩
theorem ExsOk.nil (w : World) : ExsOk w none [] := ⟨by simp, fun i h => absurd h (by simp)⟩
theorem zeroP_ok (w : World) : PktOk w zeroP := ⟨by decide, ⟨by decide, by decide, by decide, .nil w⟩, by decide, by decide, .nil w, by decide, by decide, by decide, by decide, by decide, .nil w⟩
theorem selP_ok {w : World} {p : Pkt} (h : PktOk w p) : PktOk w (selP p) := by
  have hz := zeroP_ok w
  have h1 : PktOk w (selZ p) := ⟨hz.ce, hz.m, hz.stamp, hz.sent, hz.got, hz.hor, hz.seq, hz.mem, hz.pe, hz.epoch, hz.xs⟩
  have h2 : PktOk w (selC p) := ⟨h.ce, hz.m, hz.stamp, hz.sent, hz.got, hz.hor, hz.seq, hz.mem, hz.pe, hz.epoch, hz.xs⟩
  unfold selP
  split
  · exact h1
  split
  · exact ⟨h.ce, ⟨h.m.1, h.m.2.1, h.m.2.2.1, h.m.2.2.2⟩, hz.stamp, hz.sent, hz.got, hz.hor, hz.seq, hz.mem, hz.pe, hz.epoch, hz.xs⟩
  split
  · exact ⟨h.ce, hz.m, h.stamp, h.sent, h.got, h.hor, hz.seq, hz.mem, hz.pe, hz.epoch, hz.xs⟩
  split
  · exact ⟨h.ce, hz.m, hz.stamp, hz.sent, hz.got, hz.hor, h.seq, hz.mem, hz.pe, hz.epoch, hz.xs⟩
  split
  · exact ⟨h.ce, hz.m, hz.stamp, hz.sent, hz.got, hz.hor, hz.seq, h.mem, h.pe, h.epoch, hz.xs⟩
  split
  · exact ⟨h.ce, hz.m, hz.stamp, hz.sent, hz.got, hz.hor, hz.seq, h.mem, hz.pe, hz.epoch, hz.xs⟩
  split
  · exact ⟨h.ce, hz.m, hz.stamp, hz.sent, hz.got, hz.hor, hz.seq, hz.mem, hz.pe, hz.epoch, h.xs⟩
  split
  · exact ⟨h.ce, hz.m, hz.stamp, hz.sent, hz.got, hz.hor, hz.seq, h.mem, hz.pe, hz.epoch, h.xs⟩
  split
  · exact ⟨h.ce, ⟨h.m.1, h.m.2.1, h.m.2.2.1, h.m.2.2.2⟩, hz.stamp, hz.sent, hz.got, hz.hor, hz.seq, hz.mem, hz.pe, hz.epoch, hz.xs⟩
  · exact h2
theorem two_st (w : World) (p : Pkt) : OwnSt w ((w.alloc (.cells (pktA p) 35)).alloc (.cells (pktA zeroP) 35)) p := by
  have b1 := ba (br w) (.cells (pktA p) 35)
  have b2 := ba (br (w.alloc (.cells (pktA p) 35))) (.cells (pktA zeroP) 35)
  have h1 := heap_alloc_new w (.cells (pktA p) 35)
  have h2 := heap_alloc_new (w.alloc (.cells (pktA p) 35)) (.cells (pktA zeroP) 35)
  have s1 : (w.alloc (.cells (pktA p) 35)).heap.size = w.heap.size + 1 := by simp
  exact ⟨(b2.block _ (by omega)).trans h1, by rw [← s1]; exact h2, bt b1 b2⟩
theorem wpList_buildZ {P : Program} {ops : Array Oper} {rest : List Oper} {o : Oper} {a : Act} {w : World} {Q : Exit → Act → World → Prop} (hg : o.guard = none) (t : TypeId) (parts : Array (Nat × Operand)) (ho : o.op = .build t parts)
    (cells : Array Value) (hc : P.built t (parts.map fun (i, x) => (i, a.eval x)).toList = some cells)
    (h : wpList P ops Q rest (a.put o.dst (.agg cells)) w) : wpList P ops Q (o :: rest) a w :=
  wpList_plain hg fun _ hK => by
    unfold Oper.wp execOp
    simp only [ho, Sem.run_bind, run_build w t _ cells hc, Result.andThen_ok]
    exact hK _ _ h
theorem bldP (p : Pkt) : Try.prog.built 35 [(0, .int .i64 p.kind), (1, .int .i64 p.frm), (2, .int .i64 p.dst)] = some (pktA (selZ p)) := by kernel_rfl
structure ClnSt (w W : World) (p q : Pkt) : Prop where
  st : OwnSt w W p
  q : W.heap[w.heap.size + 2]? = some (.cells (pktA q) 35 (0, 0))
theorem ClnSt.set {w W : World} {p q r : Pkt} (h : ClnSt w W p q) (j : Nat) (u : Value) (hq : (pktA q).setIfInBounds j u = pktA r) : ClnSt w (W.setCell ⟨w.heap.size + 2, j, none⟩ u) p r := by
  have hk : Kept (fun b => b = w.heap.size + 2) W (W.setCell ⟨w.heap.size + 2, j, none⟩ u) := (show Kept (fun b => b = w.heap.size + 2) W W from .refl _ _).setCell (p := ⟨w.heap.size + 2, j, none⟩) rfl _
  refine ⟨h.st.kept hk (fun k hk => by omega), ?_⟩
  rw [← hq]
  exact setCell_block h.q j u
theorem ClnSt.drew {w W : World} {p q : Pkt} (h : ClnSt w W p q) : ClnSt w W.drew p q := ⟨h.st.below (br W).drew, h.q⟩
theorem ClnSt.src {w W : World} {p q : Pkt} (h : ClnSt w W p q) {N : Nat} (hN : N = w.heap.size) : W.rangeAt N 0 (pktA p).toList := range_of_block (by rw [hN]; exact h.st.a)
theorem ClnSt.dst {w W : World} {p q : Pkt} (h : ClnSt w W p q) {N : Nat} (hN : N = w.heap.size) (j : Nat) : W.cell? ⟨N + 1 + 1, j, none⟩ = (pktA q)[j]? ∧ W.frozen? ⟨N + 1 + 1, j, none⟩ = false := by
  rw [hN]
  exact ⟨cell_of_row _ _ _ _ _ _ h.q, frozen_of_row _ _ _ _ _ h.q⟩
theorem clnEnd {p : Pkt} {w W w7 : World} {q : Pkt} (h : ClnSt w W p (selP p)) (hc : coreP q = coreP (selP p)) (ho : OwnPk W.heap.size w7 q) (hb : Below W.heap.size W w7) : OwnEnd (selP p) w (.returned (.agg (pktA q))) (w7.setRow (w.heap.size + 1) (pktA q)) := by
  have hk := kept_setRow w7 (w.heap.size + 1) (pktA q)
  have hlt := h.st.lt
  have hbs : ∀ (v : Value) (b : Nat) e size n xs, w7.ownsRow W.heap.size e size v n xs → v.ownBlock = some b → ¬ b = w.heap.size + 1 := fun v b e size n xs ho hb e' => by have := (ho.lt b hb).1; omega
  have hle : w.heap.size ≤ W.heap.size := by omega
  refine ⟨⟨q, rfl, hc, ?_, ?_, ?_, ?_⟩, hk.out (bt h.st.bel hb) (by have := hb.size; omega) (fun k hk' e => by omega)⟩
  · exact ownMore (own_keptS ho.got hk (fun b hb => hbs _ b _ _ _ _ ho.got hb)) hle
  · exact ownMore (own_keptS ho.ds hk (fun b hb => hbs _ b _ _ _ _ ho.ds hb)) hle
  · exact ownMore (own_keptS ho.xs hk (fun b hb => hbs _ b _ _ _ _ ho.xs hb)) hle
  · exact fun x hx => ownMore (own_keptS (ho.cs x hx) hk (fun b hb => hbs _ b _ _ _ _ (ho.cs x hx) hb)) hle
set_option maxRecDepth 100000 in
set_option maxHeartbeats 8000000 in
theorem Cln1_any (p : Pkt) (w : World) (hp : PktOk w p) (hkd : p.kind = 1) : Calls Try.prog 16 #[.agg (pktA p)] w fun e w' => OwnEnd (selP p) w e w' := by
  obtain ⟨N, hN⟩ : ∃ N, N = w.heap.size := ⟨_, rfl⟩
  obtain ⟨W, hW⟩ : ∃ W, W = (w.alloc (.cells (pktA p) 35)).alloc (.cells (pktA zeroP) 35) := ⟨_, rfl⟩
  obtain ⟨Z, hZ⟩ : ∃ Z, Z = pktA (selZ p) := ⟨_, rfl⟩
  have hbld := bldP p
  rw [← hZ] at hbld
  have hs : OwnSt w W p := by rw [hW]; exact two_st w p
  have hsz : W.heap.size = N + 1 + 1 := by rw [hW, hN]; simp
  have hza := heap_alloc_new W (.cells (pktA zeroP) 35)
  rw [hsz] at hza
  obtain ⟨W4, hW4⟩ : ∃ W4, W4 = (W.alloc (.cells (pktA zeroP) 35)).setRow (N + 1 + 1) Z := ⟨_, rfl⟩
  have hst : ClnSt w W4 p (selZ p) := by
    rw [hW4]
    refine ⟨(hs.below (ba (br W) _)).kept (kept_setRow _ _ _) (fun k hk => by rw [hk, hN]; omega), ?_⟩
    rw [← hN, ← hZ]
    exact setRow_heap _ _ _ _ _ _ hza
  have HP := Lib.hid hp
  have HN := Lib.hid hN
  have HSZ := Lib.hid hsz
  have HZ := Lib.hid (And.intro (show Z.size = 22 by rw [hZ]; rfl) (show Z.all (·.oneCell') = true by rw [hZ]; exact oneCell_pktA _))
  have hma : pktA p = #[.int .i64 1, .int .i64 p.frm, .int .i64 p.dst, .int .u64 (p.ce : Int), .int .i64 p.cr, .int .i64 p.m.frm, .int .u32 (p.m.seq : Int), .int .u64 (p.m.stamp : Int), .int .i64 p.m.service, .slice p.m.da p.m.ds.length p.m.dc, .string p.m.pay, .int .u64 (p.stamp : Int), .int .u32 (p.sent : Int), .slice p.ga p.got.length p.gc, .int .u64 (p.hor : Int), .int .i64 p.whom, .int .u32 (p.seq : Int), .int .u64 (p.mem : Int), .int .u64 (p.pe : Int), .int .i64 p.pr, .int .u64 (p.epoch : Int), .slice p.xa p.xs.length p.xc] := by rw [pktA, hkd]
  have hmz : pktA zeroP = #[.int .i64 0, .int .i64 0, .int .i64 0, .int .u64 0, .int .i64 0, .int .i64 0, .int .u32 0, .int .u64 0, .int .i64 0, .slice none 0 0, .string ⟨#[]⟩, .int .u64 0, .int .u32 0, .slice none 0 0, .int .u64 0, .int .i64 0, .int .u32 0, .int .u64 0, .int .u64 0, .int .i64 0, .int .u64 0, .slice none 0 0] := rfl
  have hr := range_of_block hs.a
  rw [← hN] at hr
  have c0 : W.cell? ⟨N, 0, none⟩ = some (.int .i64 1) := by rw [← hkd]; exact hr 0 _ rfl
  have c1 : W.cell? ⟨N, 1, none⟩ = some (.int .i64 p.frm) := hr 1 _ rfl
  have c2 : W.cell? ⟨N, 2, none⟩ = some (.int .i64 p.dst) := hr 2 _ rfl
  rw [hma, hmz] at hW
  rw [hmz] at hW4 hza
  rw [hma]
  rw [hkd] at hbld
  have HBD := Lib.hid (And.intro hbld hza)
  have HQ := Lib.hid hkd
  have HST := Lib.hid hst
  clear hp hmz hma hs hst hsz hr hZ hbld hza hkd
  go_enter Try.func16, Try.ntmps16
  go_upto_region 1 with (fail)
  rw [← hW, ← hN]
  clear hW hN
  refine wp_region_lit ?_
  iterate 6
    refine wpList_step (fun K hK => ?_)
    go_simp
    refine hK _ _ ?_
    clear hK K
    (try simp only [Act.put, List.setIfInBounds_toArray, List.set_cons_zero, List.set_cons_succ])
  refine wpList_buildZ rfl 35 #[(0, .tmp 5), (1, .tmp 7), (2, .tmp 9)] rfl Z (by simp only [List.map_toArray, List.map_cons, List.map_nil]; exact HBD.out.1) ?_
  (try simp only [Act.put, List.setIfInBounds_toArray, List.set_cons_zero, List.set_cons_succ])
  iterate 1
    refine wpList_step (fun K hK => ?_)
    go_simp
    refine hK _ _ ?_
    clear hK K
    (try simp only [Act.put, List.setIfInBounds_toArray, List.set_cons_zero, List.set_cons_succ])
  refine wpList_store_row rfl 35 (.tmp 3) (.tmp 10) rfl (N + 1 + 1) Z (by rw [← HSZ.out]; rfl) rfl 35 _ HBD.out.2 (by rw [HZ.out.1]; kernel_rfl) (by rw [HZ.out.1]; rfl) HZ.out.2 ?_
  (try simp only [Act.put, List.setIfInBounds_toArray, List.set_cons_zero, List.set_cons_succ])
  refine wpList_nil ?_
  rw [← hW4, HSZ.out]
  clear hW4 c0 c1 c2 HBD HZ
  go_upto_region 2 with (fail)
  have c0 : W4.cell? ⟨N, 0, none⟩ = some (.int .i64 1) := by rw [← HQ.out]; exact (HST.out.src HN.out) 0 _ rfl
  have c3 : W4.cell? ⟨N, 3, none⟩ = some (.int .u64 (p.ce : Int)) := (HST.out.src HN.out) 3 _ rfl
  have c4 : W4.cell? ⟨N, 4, none⟩ = some (.int .i64 p.cr) := (HST.out.src HN.out) 4 _ rfl
  have d3 : W4.cell? ⟨N + 1 + 1, 3, none⟩ = some (.int .u64 0) := (HST.out.dst HN.out 3).1
  have d4 : W4.cell? ⟨N + 1 + 1, 4, none⟩ = some (.int .i64 0) := (HST.out.dst HN.out 4).1
  have f3 : W4.frozen? ⟨N + 1 + 1, 3, none⟩ = false := (HST.out.dst HN.out 3).2
  have f4 : W4.frozen? ⟨N + 1 + 1, 4, none⟩ = false := (HST.out.dst HN.out 4).2
  go_upto_region 4 with (fail)
  obtain ⟨W5, hW5⟩ : ∃ W5, W5 = (W4.setCell ⟨N + 1 + 1, 3, none⟩ (.int .u64 (p.ce : Int))).setCell ⟨N + 1 + 1, 4, none⟩ (.int .i64 p.cr) := ⟨_, rfl⟩
  rw [← hW5]
  have hst : ClnSt w W5 p (selC p) := by
    rw [hW5, HN.out]
    exact (HST.out.set (r := { selZ p with ce := p.ce }) 3 _ rfl).set 4 _ rfl
  clear hW5 c0 c3 c4 d3 d4 f3 f4 HST
  have hr := hst.src HN.out
  have c0 : W5.cell? ⟨N, 0, none⟩ = some (.int .i64 1) := by rw [← HQ.out]; exact hr 0 _ rfl
  have hS : ∀ (W' : World) (q : Pkt), ClnSt w W' p q → W'.cell? ⟨N, 5, none⟩ = some (.int .i64 p.m.frm) ∧ W'.cell? ⟨N, 6, none⟩ = some (.int .u32 (p.m.seq : Int)) ∧ W'.cell? ⟨N, 7, none⟩ = some (.int .u64 (p.m.stamp : Int)) ∧ W'.cell? ⟨N, 8, none⟩ = some (.int .i64 p.m.service) ∧ W'.cell? ⟨N, 9, none⟩ = some (.slice p.m.da p.m.ds.length p.m.dc) ∧ W'.cell? ⟨N, 10, none⟩ = some (.string p.m.pay) ∧ W'.cell? ⟨N, 1, none⟩ = some (.int .i64 p.frm) := fun W' q h => ⟨(h.src HN.out) 5 _ rfl, (h.src HN.out) 6 _ rfl, (h.src HN.out) 7 _ rfl, (h.src HN.out) 8 _ rfl, (h.src HN.out) 9 _ rfl, (h.src HN.out) 10 _ rfl, (h.src HN.out) 1 _ rfl⟩
  have HS := Lib.hid hS
  have HST := Lib.hid hst
  clear hst hr hS
  go_upto_region 6 with (fail)
  refine wp_region_mask (fun w' => w'.cell? ⟨N, 5, none⟩ = some (.int .i64 p.m.frm) ∧ w'.cell? ⟨N, 6, none⟩ = some (.int .u32 (p.m.seq : Int)) ∧ w'.cell? ⟨N, 7, none⟩ = some (.int .u64 (p.m.stamp : Int)) ∧ w'.cell? ⟨N, 8, none⟩ = some (.int .i64 p.m.service) ∧ w'.cell? ⟨N, 9, none⟩ = some (.slice p.m.da p.m.ds.length p.m.dc) ∧ w'.cell? ⟨N, 10, none⟩ = some (.string p.m.pay) ∧ w'.cell? ⟨N, 1, none⟩ = some (.int .i64 p.frm)) 8 4 [true, true, true, true, true, false, false, false, false] #[true, true, true, true, true, false, false, false, false] (by kernel_rfl) (by kernel_rfl) (by kernel_rfl) (HS.out _ _ HST.out.drew) ?_
  have hs0 := HST.out.drew
  generalize W5.drew = V0 at *
  have HS0 := Lib.hid hs0
  clear hs0
  iterate 5
    refine wpMask_take _ (Or.inl ⟨by rfl, fun w' hS => by (try dsimp only at hS); go_simp; try with_reducible rfl⟩) ?_
    simp only [Act.put, List.setIfInBounds_toArray, List.set_cons_zero, List.set_cons_succ]
  refine wpMask_skip (wpMask_skip (wpMask_skip (wpMask_skip (wpMask_nil ?_))))
  have d5 : V0.cell? ⟨N + 1 + 1, 5, none⟩ = some (.int .i64 0) := (HS0.out.dst HN.out 5).1
  have f5 : V0.frozen? ⟨N + 1 + 1, 5, none⟩ = false := (HS0.out.dst HN.out 5).2
  have d6 : V0.cell? ⟨N + 1 + 1, 6, none⟩ = some (.int .u32 0) := (HS0.out.dst HN.out 6).1
  have f6 : V0.frozen? ⟨N + 1 + 1, 6, none⟩ = false := (HS0.out.dst HN.out 6).2
  have d7 : V0.cell? ⟨N + 1 + 1, 7, none⟩ = some (.int .u64 0) := (HS0.out.dst HN.out 7).1
  have f7 : V0.frozen? ⟨N + 1 + 1, 7, none⟩ = false := (HS0.out.dst HN.out 7).2
  have d8 : V0.cell? ⟨N + 1 + 1, 8, none⟩ = some (.int .i64 0) := (HS0.out.dst HN.out 8).1
  have f8 : V0.frozen? ⟨N + 1 + 1, 8, none⟩ = false := (HS0.out.dst HN.out 8).2
  have d9 : V0.cell? ⟨N + 1 + 1, 9, none⟩ = some (.slice none 0 0) := (HS0.out.dst HN.out 9).1
  have f9 : V0.frozen? ⟨N + 1 + 1, 9, none⟩ = false := (HS0.out.dst HN.out 9).2
  have d10 : V0.cell? ⟨N + 1 + 1, 10, none⟩ = some (.string ⟨#[]⟩) := (HS0.out.dst HN.out 10).1
  have f10 : V0.frozen? ⟨N + 1 + 1, 10, none⟩ = false := (HS0.out.dst HN.out 10).2
  obtain ⟨V1, hV⟩ : ∃ V1, V1 = ((((((V0.setCell ⟨N + 1 + 1, 5, none⟩ (.int .i64 p.m.frm)).setCell ⟨N + 1 + 1, 6, none⟩ (.int .u32 (p.m.seq : Int))).setCell ⟨N + 1 + 1, 7, none⟩ (.int .u64 (p.m.stamp : Int))).setCell ⟨N + 1 + 1, 8, none⟩ (.int .i64 p.m.service)).setCell ⟨N + 1 + 1, 9, none⟩ (.slice p.m.da p.m.ds.length p.m.dc)).setCell ⟨N + 1 + 1, 10, none⟩ (.string p.m.pay)) := ⟨_, rfl⟩
  have HS1 := Lib.hid (show ClnSt w V1 p ({ selC p with m := p.m }) from by
    rw [hV, HN.out]
    exact ((((((HS0.out).set (r := { selC p with m := { (selC p : Pkt).m with frm := p.m.frm } }) 5 _ rfl).set (r := { selC p with m := { (selC p : Pkt).m with frm := p.m.frm, seq := p.m.seq } }) 6 _ rfl).set (r := { selC p with m := { (selC p : Pkt).m with frm := p.m.frm, seq := p.m.seq, stamp := p.m.stamp } }) 7 _ rfl).set (r := { selC p with m := { (selC p : Pkt).m with frm := p.m.frm, seq := p.m.seq, stamp := p.m.stamp, service := p.m.service } }) 8 _ rfl).set (r := { selC p with m := { (selC p : Pkt).m with frm := p.m.frm, seq := p.m.seq, stamp := p.m.stamp, service := p.m.service, ds := p.m.ds, da := p.m.da, dc := p.m.dc } }) 9 _ rfl).set (r := { selC p with m := p.m }) 10 _ rfl)
  refine wpAnyS_ready (rs := [5]) (by kernel_rfl) (by simp) ?_
  refine AllReadyS.cons rfl (fun K hK => ?_) AllReadyS.nil
  go_simp
  rw [← hV]
  refine hK.out _ _ (fun _ => HS.out _ _ HS1.out) ?_
  clear hK K hV d5 f5 d6 f6 d7 f7 d8 f8 d9 f9 d10 f10
  simp only [Act.put, List.setIfInBounds_toArray, List.set_cons_zero, List.set_cons_succ]
  refine wpAnyS_ready (rs := [6]) (by kernel_rfl) (by simp) ?_
  refine AllReadyS.cons rfl (fun K hK => ?_) AllReadyS.nil
  go_simp
  refine hK.out _ _ (fun _ => HS.out _ _ HS1.out) ?_
  clear hK K
  simp only [Act.put, List.setIfInBounds_toArray, List.set_cons_zero, List.set_cons_succ]
  refine wpAnyS_ready (rs := [7]) (by kernel_rfl) (by simp) ?_
  refine AllReadyS.cons rfl (fun K hK => ?_) AllReadyS.nil
  go_simp
  refine hK.out _ _ (fun _ => HS.out _ _ HS1.out) ?_
  clear hK K
  simp only [Act.put, List.setIfInBounds_toArray, List.set_cons_zero, List.set_cons_succ]
  have d5 : V1.cell? ⟨N + 1 + 1, 5, none⟩ = some (.int .i64 p.m.frm) := (HS1.out.dst HN.out 5).1
  have f5 : V1.frozen? ⟨N + 1 + 1, 5, none⟩ = false := (HS1.out.dst HN.out 5).2
  obtain ⟨V2, hV⟩ : ∃ V2, V2 = (V1.setCell ⟨N + 1 + 1, 5, none⟩ (.int .i64 p.frm)) := ⟨_, rfl⟩
  have HS2 := Lib.hid (show ClnSt w V2 p ({ selC p with m := { p.m with frm := p.frm } }) from by rw [hV, HN.out]; exact HS1.out.set 5 _ rfl)
  refine wpAnyS_ready (rs := [8]) (by kernel_rfl) (by simp) ?_
  refine AllReadyS.cons rfl (fun K hK => ?_) AllReadyS.nil
  go_simp
  rw [← hV]
  refine hK.out _ _ (fun _ => HS.out _ _ HS2.out) ?_
  clear hK K hV d5 f5
  simp only [Act.put, List.setIfInBounds_toArray, List.set_cons_zero, List.set_cons_succ]
  refine wpAnyS_done (by kernel_rfl) ?_ _
  go_upto_region 23 with (fail)
  clear c0
  have hq : { selC p with m := { p.m with frm := p.frm } } = selP p := by unfold selP; have := HQ.out; simp [this]
  have hs9 : ClnSt w V2 p (selP p) := by rw [← hq]; exact HS2.out
  have hA := (show ClnSt w V2 p (selP p) from hs9).q
  have HO := Lib.hid (own_any (selP p) V2 ((selP_ok HP.out).below hs9.st.bel))
  have H9 := Lib.hid hs9
  clear hs9 hq
  generalize hAA : pktA (selP p) = A at hA HO
  have hA1 : A.size = 22 := by rw [← hAA]; rfl
  rw [show w.heap.size + 2 = N + 1 + 1 from by rw [HN.out]] at hA
  have HA := Lib.hid (And.intro hA (And.intro hA1 hAA))
  clear hA hA1 hAA
  go_wp2_with (refine wpList_load_row rfl 35 (.tmp 3) rfl (N + 1 + 1) rfl 35 A (0, 0) _ HA.out.1 Try.underlying35 rfl (by rw [HA.out.2.1]; kernel_rfl) ?_)
  refine HO.out.mono ?_
  rintro e w7 ⟨⟨q, rfl, hc, ho⟩, hb⟩
  have HE := Lib.hid (clnEnd H9.out hc ho hb)
  have hz : w7.heap[N + 1]? = some (.cells (pktA zeroP) 35 (0, 0)) := by rw [HN.out]; exact (H9.out.st.below hb).b
  generalize hBB : pktA q = B at HE
  have HB := Lib.hid (And.intro hz (And.intro (show B.size = 22 by rw [← hBB]; rfl) (show B.all (·.oneCell') = true by rw [← hBB]; exact oneCell_pktA q)))
  clear hz hBB hc ho hb HO HA
  go_wp2_with (refine wpList_store_row rfl 35 (.tmp 2) (.tmp 98) rfl (N + 1) B rfl rfl 35 _ HB.out.1 (by rw [HB.out.2.1]; kernel_rfl) (by rw [HB.out.2.1]; rfl) HB.out.2.2 ?_)
  rw [← HN.out] at HE
  refine bodyPost_ret (results_cell_row Try.results16 _ _ (N + 1) 35 B (0, 0) _ rfl (setRow_heap _ _ _ _ _ _ HB.out.1) Try.underlying35 rfl (by rw [HB.out.2.1]; kernel_rfl)) rfl ?_
  exact HE.out
set_option maxRecDepth 100000 in
set_option maxHeartbeats 8000000 in
theorem Cln2_any (p : Pkt) (w : World) (hp : PktOk w p) (hkd : p.kind = 2) : Calls Try.prog 16 #[.agg (pktA p)] w fun e w' => OwnEnd (selP p) w e w' := by
  obtain ⟨N, hN⟩ : ∃ N, N = w.heap.size := ⟨_, rfl⟩
  obtain ⟨W, hW⟩ : ∃ W, W = (w.alloc (.cells (pktA p) 35)).alloc (.cells (pktA zeroP) 35) := ⟨_, rfl⟩
  obtain ⟨Z, hZ⟩ : ∃ Z, Z = pktA (selZ p) := ⟨_, rfl⟩
  have hbld := bldP p
  rw [← hZ] at hbld
  have hs : OwnSt w W p := by rw [hW]; exact two_st w p
  have hsz : W.heap.size = N + 1 + 1 := by rw [hW, hN]; simp
  have hza := heap_alloc_new W (.cells (pktA zeroP) 35)
  rw [hsz] at hza
  obtain ⟨W4, hW4⟩ : ∃ W4, W4 = (W.alloc (.cells (pktA zeroP) 35)).setRow (N + 1 + 1) Z := ⟨_, rfl⟩
  have hst : ClnSt w W4 p (selZ p) := by
    rw [hW4]
    refine ⟨(hs.below (ba (br W) _)).kept (kept_setRow _ _ _) (fun k hk => by rw [hk, hN]; omega), ?_⟩
    rw [← hN, ← hZ]
    exact setRow_heap _ _ _ _ _ _ hza
  have HP := Lib.hid hp
  have HN := Lib.hid hN
  have HSZ := Lib.hid hsz
  have HZ := Lib.hid (And.intro (show Z.size = 22 by rw [hZ]; rfl) (show Z.all (·.oneCell') = true by rw [hZ]; exact oneCell_pktA _))
  have hma : pktA p = #[.int .i64 2, .int .i64 p.frm, .int .i64 p.dst, .int .u64 (p.ce : Int), .int .i64 p.cr, .int .i64 p.m.frm, .int .u32 (p.m.seq : Int), .int .u64 (p.m.stamp : Int), .int .i64 p.m.service, .slice p.m.da p.m.ds.length p.m.dc, .string p.m.pay, .int .u64 (p.stamp : Int), .int .u32 (p.sent : Int), .slice p.ga p.got.length p.gc, .int .u64 (p.hor : Int), .int .i64 p.whom, .int .u32 (p.seq : Int), .int .u64 (p.mem : Int), .int .u64 (p.pe : Int), .int .i64 p.pr, .int .u64 (p.epoch : Int), .slice p.xa p.xs.length p.xc] := by rw [pktA, hkd]
  have hmz : pktA zeroP = #[.int .i64 0, .int .i64 0, .int .i64 0, .int .u64 0, .int .i64 0, .int .i64 0, .int .u32 0, .int .u64 0, .int .i64 0, .slice none 0 0, .string ⟨#[]⟩, .int .u64 0, .int .u32 0, .slice none 0 0, .int .u64 0, .int .i64 0, .int .u32 0, .int .u64 0, .int .u64 0, .int .i64 0, .int .u64 0, .slice none 0 0] := rfl
  have hr := range_of_block hs.a
  rw [← hN] at hr
  have c0 : W.cell? ⟨N, 0, none⟩ = some (.int .i64 2) := by rw [← hkd]; exact hr 0 _ rfl
  have c1 : W.cell? ⟨N, 1, none⟩ = some (.int .i64 p.frm) := hr 1 _ rfl
  have c2 : W.cell? ⟨N, 2, none⟩ = some (.int .i64 p.dst) := hr 2 _ rfl
  rw [hma, hmz] at hW
  rw [hmz] at hW4 hza
  rw [hma]
  rw [hkd] at hbld
  have HBD := Lib.hid (And.intro hbld hza)
  have HQ := Lib.hid hkd
  have HST := Lib.hid hst
  clear hp hmz hma hs hst hsz hr hZ hbld hza hkd
  go_enter Try.func16, Try.ntmps16
  go_upto_region 1 with (fail)
  rw [← hW, ← hN]
  clear hW hN
  refine wp_region_lit ?_
  iterate 6
    refine wpList_step (fun K hK => ?_)
    go_simp
    refine hK _ _ ?_
    clear hK K
    (try simp only [Act.put, List.setIfInBounds_toArray, List.set_cons_zero, List.set_cons_succ])
  refine wpList_buildZ rfl 35 #[(0, .tmp 5), (1, .tmp 7), (2, .tmp 9)] rfl Z (by simp only [List.map_toArray, List.map_cons, List.map_nil]; exact HBD.out.1) ?_
  (try simp only [Act.put, List.setIfInBounds_toArray, List.set_cons_zero, List.set_cons_succ])
  iterate 1
    refine wpList_step (fun K hK => ?_)
    go_simp
    refine hK _ _ ?_
    clear hK K
    (try simp only [Act.put, List.setIfInBounds_toArray, List.set_cons_zero, List.set_cons_succ])
  refine wpList_store_row rfl 35 (.tmp 3) (.tmp 10) rfl (N + 1 + 1) Z (by rw [← HSZ.out]; rfl) rfl 35 _ HBD.out.2 (by rw [HZ.out.1]; kernel_rfl) (by rw [HZ.out.1]; rfl) HZ.out.2 ?_
  (try simp only [Act.put, List.setIfInBounds_toArray, List.set_cons_zero, List.set_cons_succ])
  refine wpList_nil ?_
  rw [← hW4, HSZ.out]
  clear hW4 c0 c1 c2 HBD HZ
  go_upto_region 2 with (fail)
  have c0 : W4.cell? ⟨N, 0, none⟩ = some (.int .i64 2) := by rw [← HQ.out]; exact (HST.out.src HN.out) 0 _ rfl
  have c3 : W4.cell? ⟨N, 3, none⟩ = some (.int .u64 (p.ce : Int)) := (HST.out.src HN.out) 3 _ rfl
  have c4 : W4.cell? ⟨N, 4, none⟩ = some (.int .i64 p.cr) := (HST.out.src HN.out) 4 _ rfl
  have d3 : W4.cell? ⟨N + 1 + 1, 3, none⟩ = some (.int .u64 0) := (HST.out.dst HN.out 3).1
  have d4 : W4.cell? ⟨N + 1 + 1, 4, none⟩ = some (.int .i64 0) := (HST.out.dst HN.out 4).1
  have f3 : W4.frozen? ⟨N + 1 + 1, 3, none⟩ = false := (HST.out.dst HN.out 3).2
  have f4 : W4.frozen? ⟨N + 1 + 1, 4, none⟩ = false := (HST.out.dst HN.out 4).2
  go_upto_region 4 with (fail)
  obtain ⟨W5, hW5⟩ : ∃ W5, W5 = (W4.setCell ⟨N + 1 + 1, 3, none⟩ (.int .u64 (p.ce : Int))).setCell ⟨N + 1 + 1, 4, none⟩ (.int .i64 p.cr) := ⟨_, rfl⟩
  rw [← hW5]
  have hst : ClnSt w W5 p (selC p) := by
    rw [hW5, HN.out]
    exact (HST.out.set (r := { selZ p with ce := p.ce }) 3 _ rfl).set 4 _ rfl
  clear hW5 c0 c3 c4 d3 d4 f3 f4 HST
  have hr := hst.src HN.out
  have c0 : W5.cell? ⟨N, 0, none⟩ = some (.int .i64 2) := by rw [← HQ.out]; exact hr 0 _ rfl
  have hS : ∀ (W' : World) (q : Pkt), ClnSt w W' p q → W'.cell? ⟨N, 11, none⟩ = some (.int .u64 (p.stamp : Int)) ∧ W'.cell? ⟨N, 12, none⟩ = some (.int .u32 (p.sent : Int)) ∧ W'.cell? ⟨N, 13, none⟩ = some (.slice p.ga p.got.length p.gc) ∧ W'.cell? ⟨N, 14, none⟩ = some (.int .u64 (p.hor : Int)) := fun W' q h => ⟨(h.src HN.out) 11 _ rfl, (h.src HN.out) 12 _ rfl, (h.src HN.out) 13 _ rfl, (h.src HN.out) 14 _ rfl⟩
  have HS := Lib.hid hS
  have HST := Lib.hid hst
  clear hst hr hS
  go_upto_region 8 with (fail)
  refine wp_region_mask (fun w' => w'.cell? ⟨N, 11, none⟩ = some (.int .u64 (p.stamp : Int)) ∧ w'.cell? ⟨N, 12, none⟩ = some (.int .u32 (p.sent : Int)) ∧ w'.cell? ⟨N, 13, none⟩ = some (.slice p.ga p.got.length p.gc) ∧ w'.cell? ⟨N, 14, none⟩ = some (.int .u64 (p.hor : Int))) 15 7 [true, true, true, true, true, true, true, true, true, false, false, false, false, false, false, false] #[true, true, true, true, true, true, true, true, true, false, false, false, false, false, false, false] (by kernel_rfl) (by kernel_rfl) (by kernel_rfl) (HS.out _ _ HST.out.drew) ?_
  have hs0 := HST.out.drew
  generalize W5.drew = V0 at *
  have HS0 := Lib.hid hs0
  clear hs0
  iterate 9
    refine wpMask_take _ (Or.inl ⟨by rfl, fun w' hS => by (try dsimp only at hS); go_simp; try with_reducible rfl⟩) ?_
    simp only [Act.put, List.setIfInBounds_toArray, List.set_cons_zero, List.set_cons_succ]
  refine wpMask_skip (wpMask_skip (wpMask_skip (wpMask_skip (wpMask_skip (wpMask_skip (wpMask_skip (wpMask_nil ?_)))))))
  have d11 : V0.cell? ⟨N + 1 + 1, 11, none⟩ = some (.int .u64 0) := (HS0.out.dst HN.out 11).1
  have f11 : V0.frozen? ⟨N + 1 + 1, 11, none⟩ = false := (HS0.out.dst HN.out 11).2
  obtain ⟨V1, hV⟩ : ∃ V1, V1 = (V0.setCell ⟨N + 1 + 1, 11, none⟩ (.int .u64 (p.stamp : Int))) := ⟨_, rfl⟩
  have HS1 := Lib.hid (show ClnSt w V1 p ({ selC p with stamp := p.stamp }) from by rw [hV, HN.out]; exact HS0.out.set 11 _ rfl)
  refine wpAnyS_ready (rs := [9]) (by kernel_rfl) (by simp) ?_
  refine AllReadyS.cons rfl (fun K hK => ?_) AllReadyS.nil
  go_simp
  rw [← hV]
  refine hK.out _ _ (fun _ => HS.out _ _ HS1.out) ?_
  clear hK K hV d11 f11
  simp only [Act.put, List.setIfInBounds_toArray, List.set_cons_zero, List.set_cons_succ]
  refine wpAnyS_ready (rs := [10]) (by kernel_rfl) (by simp) ?_
  refine AllReadyS.cons rfl (fun K hK => ?_) AllReadyS.nil
  go_simp
  refine hK.out _ _ (fun _ => HS.out _ _ HS1.out) ?_
  clear hK K
  simp only [Act.put, List.setIfInBounds_toArray, List.set_cons_zero, List.set_cons_succ]
  have d12 : V1.cell? ⟨N + 1 + 1, 12, none⟩ = some (.int .u32 0) := (HS1.out.dst HN.out 12).1
  have f12 : V1.frozen? ⟨N + 1 + 1, 12, none⟩ = false := (HS1.out.dst HN.out 12).2
  obtain ⟨V2, hV⟩ : ∃ V2, V2 = (V1.setCell ⟨N + 1 + 1, 12, none⟩ (.int .u32 (p.sent : Int))) := ⟨_, rfl⟩
  have HS2 := Lib.hid (show ClnSt w V2 p ({ selC p with stamp := p.stamp, sent := p.sent }) from by rw [hV, HN.out]; exact HS1.out.set 12 _ rfl)
  refine wpAnyS_ready (rs := [11]) (by kernel_rfl) (by simp) ?_
  refine AllReadyS.cons rfl (fun K hK => ?_) AllReadyS.nil
  go_simp
  rw [← hV]
  refine hK.out _ _ (fun _ => HS.out _ _ HS2.out) ?_
  clear hK K hV d12 f12
  simp only [Act.put, List.setIfInBounds_toArray, List.set_cons_zero, List.set_cons_succ]
  refine wpAnyS_ready (rs := [12]) (by kernel_rfl) (by simp) ?_
  refine AllReadyS.cons rfl (fun K hK => ?_) AllReadyS.nil
  go_simp
  refine hK.out _ _ (fun _ => HS.out _ _ HS2.out) ?_
  clear hK K
  simp only [Act.put, List.setIfInBounds_toArray, List.set_cons_zero, List.set_cons_succ]
  have d13 : V2.cell? ⟨N + 1 + 1, 13, none⟩ = some (.slice none 0 0) := (HS2.out.dst HN.out 13).1
  have f13 : V2.frozen? ⟨N + 1 + 1, 13, none⟩ = false := (HS2.out.dst HN.out 13).2
  obtain ⟨V3, hV⟩ : ∃ V3, V3 = (V2.setCell ⟨N + 1 + 1, 13, none⟩ (.slice p.ga p.got.length p.gc)) := ⟨_, rfl⟩
  have HS3 := Lib.hid (show ClnSt w V3 p ({ selC p with stamp := p.stamp, sent := p.sent, got := p.got, ga := p.ga, gc := p.gc }) from by rw [hV, HN.out]; exact HS2.out.set 13 _ rfl)
  refine wpAnyS_ready (rs := [13]) (by kernel_rfl) (by simp) ?_
  refine AllReadyS.cons rfl (fun K hK => ?_) AllReadyS.nil
  go_simp
  rw [← hV]
  refine hK.out _ _ (fun _ => HS.out _ _ HS3.out) ?_
  clear hK K hV d13 f13
  simp only [Act.put, List.setIfInBounds_toArray, List.set_cons_zero, List.set_cons_succ]
  refine wpAnyS_ready (rs := [14]) (by kernel_rfl) (by simp) ?_
  refine AllReadyS.cons rfl (fun K hK => ?_) AllReadyS.nil
  go_simp
  refine hK.out _ _ (fun _ => HS.out _ _ HS3.out) ?_
  clear hK K
  simp only [Act.put, List.setIfInBounds_toArray, List.set_cons_zero, List.set_cons_succ]
  have d14 : V3.cell? ⟨N + 1 + 1, 14, none⟩ = some (.int .u64 0) := (HS3.out.dst HN.out 14).1
  have f14 : V3.frozen? ⟨N + 1 + 1, 14, none⟩ = false := (HS3.out.dst HN.out 14).2
  obtain ⟨V4, hV⟩ : ∃ V4, V4 = (V3.setCell ⟨N + 1 + 1, 14, none⟩ (.int .u64 (p.hor : Int))) := ⟨_, rfl⟩
  have HS4 := Lib.hid (show ClnSt w V4 p ({ selC p with stamp := p.stamp, sent := p.sent, got := p.got, ga := p.ga, gc := p.gc, hor := p.hor }) from by rw [hV, HN.out]; exact HS3.out.set 14 _ rfl)
  refine wpAnyS_ready (rs := [15]) (by kernel_rfl) (by simp) ?_
  refine AllReadyS.cons rfl (fun K hK => ?_) AllReadyS.nil
  go_simp
  rw [← hV]
  refine hK.out _ _ (fun _ => HS.out _ _ HS4.out) ?_
  clear hK K hV d14 f14
  simp only [Act.put, List.setIfInBounds_toArray, List.set_cons_zero, List.set_cons_succ]
  refine wpAnyS_done (by kernel_rfl) ?_ _
  go_upto_region 23 with (fail)
  clear c0
  have hq : { selC p with stamp := p.stamp, sent := p.sent, got := p.got, ga := p.ga, gc := p.gc, hor := p.hor } = selP p := by unfold selP; have := HQ.out; simp [this]
  have hs9 : ClnSt w V4 p (selP p) := by rw [← hq]; exact HS4.out
  have hA := (show ClnSt w V4 p (selP p) from hs9).q
  have HO := Lib.hid (own_any (selP p) V4 ((selP_ok HP.out).below hs9.st.bel))
  have H9 := Lib.hid hs9
  clear hs9 hq
  generalize hAA : pktA (selP p) = A at hA HO
  have hA1 : A.size = 22 := by rw [← hAA]; rfl
  rw [show w.heap.size + 2 = N + 1 + 1 from by rw [HN.out]] at hA
  have HA := Lib.hid (And.intro hA (And.intro hA1 hAA))
  clear hA hA1 hAA
  go_wp2_with (refine wpList_load_row rfl 35 (.tmp 3) rfl (N + 1 + 1) rfl 35 A (0, 0) _ HA.out.1 Try.underlying35 rfl (by rw [HA.out.2.1]; kernel_rfl) ?_)
  refine HO.out.mono ?_
  rintro e w7 ⟨⟨q, rfl, hc, ho⟩, hb⟩
  have HE := Lib.hid (clnEnd H9.out hc ho hb)
  have hz : w7.heap[N + 1]? = some (.cells (pktA zeroP) 35 (0, 0)) := by rw [HN.out]; exact (H9.out.st.below hb).b
  generalize hBB : pktA q = B at HE
  have HB := Lib.hid (And.intro hz (And.intro (show B.size = 22 by rw [← hBB]; rfl) (show B.all (·.oneCell') = true by rw [← hBB]; exact oneCell_pktA q)))
  clear hz hBB hc ho hb HO HA
  go_wp2_with (refine wpList_store_row rfl 35 (.tmp 2) (.tmp 98) rfl (N + 1) B rfl rfl 35 _ HB.out.1 (by rw [HB.out.2.1]; kernel_rfl) (by rw [HB.out.2.1]; rfl) HB.out.2.2 ?_)
  rw [← HN.out] at HE
  refine bodyPost_ret (results_cell_row Try.results16 _ _ (N + 1) 35 B (0, 0) _ rfl (setRow_heap _ _ _ _ _ _ HB.out.1) Try.underlying35 rfl (by rw [HB.out.2.1]; kernel_rfl)) rfl ?_
  exact HE.out
set_option maxRecDepth 100000 in
set_option maxHeartbeats 8000000 in
theorem Cln3_any (p : Pkt) (w : World) (hp : PktOk w p) (hkd : p.kind = 3) : Calls Try.prog 16 #[.agg (pktA p)] w fun e w' => OwnEnd (selP p) w e w' := by
  obtain ⟨N, hN⟩ : ∃ N, N = w.heap.size := ⟨_, rfl⟩
  obtain ⟨W, hW⟩ : ∃ W, W = (w.alloc (.cells (pktA p) 35)).alloc (.cells (pktA zeroP) 35) := ⟨_, rfl⟩
  obtain ⟨Z, hZ⟩ : ∃ Z, Z = pktA (selZ p) := ⟨_, rfl⟩
  have hbld := bldP p
  rw [← hZ] at hbld
  have hs : OwnSt w W p := by rw [hW]; exact two_st w p
  have hsz : W.heap.size = N + 1 + 1 := by rw [hW, hN]; simp
  have hza := heap_alloc_new W (.cells (pktA zeroP) 35)
  rw [hsz] at hza
  obtain ⟨W4, hW4⟩ : ∃ W4, W4 = (W.alloc (.cells (pktA zeroP) 35)).setRow (N + 1 + 1) Z := ⟨_, rfl⟩
  have hst : ClnSt w W4 p (selZ p) := by
    rw [hW4]
    refine ⟨(hs.below (ba (br W) _)).kept (kept_setRow _ _ _) (fun k hk => by rw [hk, hN]; omega), ?_⟩
    rw [← hN, ← hZ]
    exact setRow_heap _ _ _ _ _ _ hza
  have HP := Lib.hid hp
  have HN := Lib.hid hN
  have HSZ := Lib.hid hsz
  have HZ := Lib.hid (And.intro (show Z.size = 22 by rw [hZ]; rfl) (show Z.all (·.oneCell') = true by rw [hZ]; exact oneCell_pktA _))
  have hma : pktA p = #[.int .i64 3, .int .i64 p.frm, .int .i64 p.dst, .int .u64 (p.ce : Int), .int .i64 p.cr, .int .i64 p.m.frm, .int .u32 (p.m.seq : Int), .int .u64 (p.m.stamp : Int), .int .i64 p.m.service, .slice p.m.da p.m.ds.length p.m.dc, .string p.m.pay, .int .u64 (p.stamp : Int), .int .u32 (p.sent : Int), .slice p.ga p.got.length p.gc, .int .u64 (p.hor : Int), .int .i64 p.whom, .int .u32 (p.seq : Int), .int .u64 (p.mem : Int), .int .u64 (p.pe : Int), .int .i64 p.pr, .int .u64 (p.epoch : Int), .slice p.xa p.xs.length p.xc] := by rw [pktA, hkd]
  have hmz : pktA zeroP = #[.int .i64 0, .int .i64 0, .int .i64 0, .int .u64 0, .int .i64 0, .int .i64 0, .int .u32 0, .int .u64 0, .int .i64 0, .slice none 0 0, .string ⟨#[]⟩, .int .u64 0, .int .u32 0, .slice none 0 0, .int .u64 0, .int .i64 0, .int .u32 0, .int .u64 0, .int .u64 0, .int .i64 0, .int .u64 0, .slice none 0 0] := rfl
  have hr := range_of_block hs.a
  rw [← hN] at hr
  have c0 : W.cell? ⟨N, 0, none⟩ = some (.int .i64 3) := by rw [← hkd]; exact hr 0 _ rfl
  have c1 : W.cell? ⟨N, 1, none⟩ = some (.int .i64 p.frm) := hr 1 _ rfl
  have c2 : W.cell? ⟨N, 2, none⟩ = some (.int .i64 p.dst) := hr 2 _ rfl
  rw [hma, hmz] at hW
  rw [hmz] at hW4 hza
  rw [hma]
  rw [hkd] at hbld
  have HBD := Lib.hid (And.intro hbld hza)
  have HQ := Lib.hid hkd
  have HST := Lib.hid hst
  clear hp hmz hma hs hst hsz hr hZ hbld hza hkd
  go_enter Try.func16, Try.ntmps16
  go_upto_region 1 with (fail)
  rw [← hW, ← hN]
  clear hW hN
  refine wp_region_lit ?_
  iterate 6
    refine wpList_step (fun K hK => ?_)
    go_simp
    refine hK _ _ ?_
    clear hK K
    (try simp only [Act.put, List.setIfInBounds_toArray, List.set_cons_zero, List.set_cons_succ])
  refine wpList_buildZ rfl 35 #[(0, .tmp 5), (1, .tmp 7), (2, .tmp 9)] rfl Z (by simp only [List.map_toArray, List.map_cons, List.map_nil]; exact HBD.out.1) ?_
  (try simp only [Act.put, List.setIfInBounds_toArray, List.set_cons_zero, List.set_cons_succ])
  iterate 1
    refine wpList_step (fun K hK => ?_)
    go_simp
    refine hK _ _ ?_
    clear hK K
    (try simp only [Act.put, List.setIfInBounds_toArray, List.set_cons_zero, List.set_cons_succ])
  refine wpList_store_row rfl 35 (.tmp 3) (.tmp 10) rfl (N + 1 + 1) Z (by rw [← HSZ.out]; rfl) rfl 35 _ HBD.out.2 (by rw [HZ.out.1]; kernel_rfl) (by rw [HZ.out.1]; rfl) HZ.out.2 ?_
  (try simp only [Act.put, List.setIfInBounds_toArray, List.set_cons_zero, List.set_cons_succ])
  refine wpList_nil ?_
  rw [← hW4, HSZ.out]
  clear hW4 c0 c1 c2 HBD HZ
  go_upto_region 2 with (fail)
  have c0 : W4.cell? ⟨N, 0, none⟩ = some (.int .i64 3) := by rw [← HQ.out]; exact (HST.out.src HN.out) 0 _ rfl
  have c3 : W4.cell? ⟨N, 3, none⟩ = some (.int .u64 (p.ce : Int)) := (HST.out.src HN.out) 3 _ rfl
  have c4 : W4.cell? ⟨N, 4, none⟩ = some (.int .i64 p.cr) := (HST.out.src HN.out) 4 _ rfl
  have d3 : W4.cell? ⟨N + 1 + 1, 3, none⟩ = some (.int .u64 0) := (HST.out.dst HN.out 3).1
  have d4 : W4.cell? ⟨N + 1 + 1, 4, none⟩ = some (.int .i64 0) := (HST.out.dst HN.out 4).1
  have f3 : W4.frozen? ⟨N + 1 + 1, 3, none⟩ = false := (HST.out.dst HN.out 3).2
  have f4 : W4.frozen? ⟨N + 1 + 1, 4, none⟩ = false := (HST.out.dst HN.out 4).2
  go_upto_region 4 with (fail)
  obtain ⟨W5, hW5⟩ : ∃ W5, W5 = (W4.setCell ⟨N + 1 + 1, 3, none⟩ (.int .u64 (p.ce : Int))).setCell ⟨N + 1 + 1, 4, none⟩ (.int .i64 p.cr) := ⟨_, rfl⟩
  rw [← hW5]
  have hst : ClnSt w W5 p (selC p) := by
    rw [hW5, HN.out]
    exact (HST.out.set (r := { selZ p with ce := p.ce }) 3 _ rfl).set 4 _ rfl
  clear hW5 c0 c3 c4 d3 d4 f3 f4 HST
  have hr := hst.src HN.out
  have c0 : W5.cell? ⟨N, 0, none⟩ = some (.int .i64 3) := by rw [← HQ.out]; exact hr 0 _ rfl
  have hS : ∀ (W' : World) (q : Pkt), ClnSt w W' p q → W'.cell? ⟨N, 15, none⟩ = some (.int .i64 p.whom) ∧ W'.cell? ⟨N, 16, none⟩ = some (.int .u32 (p.seq : Int)) := fun W' q h => ⟨(h.src HN.out) 15 _ rfl, (h.src HN.out) 16 _ rfl⟩
  have HS := Lib.hid hS
  have HST := Lib.hid hst
  clear hst hr hS
  go_upto_region 11 with (fail)
  refine wp_region_mask (fun w' => w'.cell? ⟨N, 15, none⟩ = some (.int .i64 p.whom) ∧ w'.cell? ⟨N, 16, none⟩ = some (.int .u32 (p.seq : Int))) 7 3 [true, true, true, true, true, false, false, false] #[true, true, true, true, true, false, false, false] (by kernel_rfl) (by kernel_rfl) (by kernel_rfl) (HS.out _ _ HST.out.drew) ?_
  have hs0 := HST.out.drew
  generalize W5.drew = V0 at *
  have HS0 := Lib.hid hs0
  clear hs0
  iterate 5
    refine wpMask_take _ (Or.inl ⟨by rfl, fun w' hS => by (try dsimp only at hS); go_simp; try with_reducible rfl⟩) ?_
    simp only [Act.put, List.setIfInBounds_toArray, List.set_cons_zero, List.set_cons_succ]
  refine wpMask_skip (wpMask_skip (wpMask_skip (wpMask_nil ?_)))
  have d15 : V0.cell? ⟨N + 1 + 1, 15, none⟩ = some (.int .i64 0) := (HS0.out.dst HN.out 15).1
  have f15 : V0.frozen? ⟨N + 1 + 1, 15, none⟩ = false := (HS0.out.dst HN.out 15).2
  obtain ⟨V1, hV⟩ : ∃ V1, V1 = (V0.setCell ⟨N + 1 + 1, 15, none⟩ (.int .i64 p.whom)) := ⟨_, rfl⟩
  have HS1 := Lib.hid (show ClnSt w V1 p ({ selC p with whom := p.whom }) from by rw [hV, HN.out]; exact HS0.out.set 15 _ rfl)
  refine wpAnyS_ready (rs := [5]) (by kernel_rfl) (by simp) ?_
  refine AllReadyS.cons rfl (fun K hK => ?_) AllReadyS.nil
  go_simp
  rw [← hV]
  refine hK.out _ _ (fun _ => HS.out _ _ HS1.out) ?_
  clear hK K hV d15 f15
  simp only [Act.put, List.setIfInBounds_toArray, List.set_cons_zero, List.set_cons_succ]
  refine wpAnyS_ready (rs := [6]) (by kernel_rfl) (by simp) ?_
  refine AllReadyS.cons rfl (fun K hK => ?_) AllReadyS.nil
  go_simp
  refine hK.out _ _ (fun _ => HS.out _ _ HS1.out) ?_
  clear hK K
  simp only [Act.put, List.setIfInBounds_toArray, List.set_cons_zero, List.set_cons_succ]
  have d16 : V1.cell? ⟨N + 1 + 1, 16, none⟩ = some (.int .u32 0) := (HS1.out.dst HN.out 16).1
  have f16 : V1.frozen? ⟨N + 1 + 1, 16, none⟩ = false := (HS1.out.dst HN.out 16).2
  obtain ⟨V2, hV⟩ : ∃ V2, V2 = (V1.setCell ⟨N + 1 + 1, 16, none⟩ (.int .u32 (p.seq : Int))) := ⟨_, rfl⟩
  have HS2 := Lib.hid (show ClnSt w V2 p ({ selC p with whom := p.whom, seq := p.seq }) from by rw [hV, HN.out]; exact HS1.out.set 16 _ rfl)
  refine wpAnyS_ready (rs := [7]) (by kernel_rfl) (by simp) ?_
  refine AllReadyS.cons rfl (fun K hK => ?_) AllReadyS.nil
  go_simp
  rw [← hV]
  refine hK.out _ _ (fun _ => HS.out _ _ HS2.out) ?_
  clear hK K hV d16 f16
  simp only [Act.put, List.setIfInBounds_toArray, List.set_cons_zero, List.set_cons_succ]
  refine wpAnyS_done (by kernel_rfl) ?_ _
  go_upto_region 23 with (fail)
  clear c0
  have hq : { selC p with whom := p.whom, seq := p.seq } = selP p := by unfold selP; have := HQ.out; simp [this]
  have hs9 : ClnSt w V2 p (selP p) := by rw [← hq]; exact HS2.out
  have hA := (show ClnSt w V2 p (selP p) from hs9).q
  have HO := Lib.hid (own_any (selP p) V2 ((selP_ok HP.out).below hs9.st.bel))
  have H9 := Lib.hid hs9
  clear hs9 hq
  generalize hAA : pktA (selP p) = A at hA HO
  have hA1 : A.size = 22 := by rw [← hAA]; rfl
  rw [show w.heap.size + 2 = N + 1 + 1 from by rw [HN.out]] at hA
  have HA := Lib.hid (And.intro hA (And.intro hA1 hAA))
  clear hA hA1 hAA
  go_wp2_with (refine wpList_load_row rfl 35 (.tmp 3) rfl (N + 1 + 1) rfl 35 A (0, 0) _ HA.out.1 Try.underlying35 rfl (by rw [HA.out.2.1]; kernel_rfl) ?_)
  refine HO.out.mono ?_
  rintro e w7 ⟨⟨q, rfl, hc, ho⟩, hb⟩
  have HE := Lib.hid (clnEnd H9.out hc ho hb)
  have hz : w7.heap[N + 1]? = some (.cells (pktA zeroP) 35 (0, 0)) := by rw [HN.out]; exact (H9.out.st.below hb).b
  generalize hBB : pktA q = B at HE
  have HB := Lib.hid (And.intro hz (And.intro (show B.size = 22 by rw [← hBB]; rfl) (show B.all (·.oneCell') = true by rw [← hBB]; exact oneCell_pktA q)))
  clear hz hBB hc ho hb HO HA
  go_wp2_with (refine wpList_store_row rfl 35 (.tmp 2) (.tmp 98) rfl (N + 1) B rfl rfl 35 _ HB.out.1 (by rw [HB.out.2.1]; kernel_rfl) (by rw [HB.out.2.1]; rfl) HB.out.2.2 ?_)
  rw [← HN.out] at HE
  refine bodyPost_ret (results_cell_row Try.results16 _ _ (N + 1) 35 B (0, 0) _ rfl (setRow_heap _ _ _ _ _ _ HB.out.1) Try.underlying35 rfl (by rw [HB.out.2.1]; kernel_rfl)) rfl ?_
  exact HE.out
set_option maxRecDepth 100000 in
set_option maxHeartbeats 8000000 in
theorem Cln4_any (p : Pkt) (w : World) (hp : PktOk w p) (hkd : p.kind = 4) : Calls Try.prog 16 #[.agg (pktA p)] w fun e w' => OwnEnd (selP p) w e w' := by
  obtain ⟨N, hN⟩ : ∃ N, N = w.heap.size := ⟨_, rfl⟩
  obtain ⟨W, hW⟩ : ∃ W, W = (w.alloc (.cells (pktA p) 35)).alloc (.cells (pktA zeroP) 35) := ⟨_, rfl⟩
  obtain ⟨Z, hZ⟩ : ∃ Z, Z = pktA (selZ p) := ⟨_, rfl⟩
  have hbld := bldP p
  rw [← hZ] at hbld
  have hs : OwnSt w W p := by rw [hW]; exact two_st w p
  have hsz : W.heap.size = N + 1 + 1 := by rw [hW, hN]; simp
  have hza := heap_alloc_new W (.cells (pktA zeroP) 35)
  rw [hsz] at hza
  obtain ⟨W4, hW4⟩ : ∃ W4, W4 = (W.alloc (.cells (pktA zeroP) 35)).setRow (N + 1 + 1) Z := ⟨_, rfl⟩
  have hst : ClnSt w W4 p (selZ p) := by
    rw [hW4]
    refine ⟨(hs.below (ba (br W) _)).kept (kept_setRow _ _ _) (fun k hk => by rw [hk, hN]; omega), ?_⟩
    rw [← hN, ← hZ]
    exact setRow_heap _ _ _ _ _ _ hza
  have HP := Lib.hid hp
  have HN := Lib.hid hN
  have HSZ := Lib.hid hsz
  have HZ := Lib.hid (And.intro (show Z.size = 22 by rw [hZ]; rfl) (show Z.all (·.oneCell') = true by rw [hZ]; exact oneCell_pktA _))
  have hma : pktA p = #[.int .i64 4, .int .i64 p.frm, .int .i64 p.dst, .int .u64 (p.ce : Int), .int .i64 p.cr, .int .i64 p.m.frm, .int .u32 (p.m.seq : Int), .int .u64 (p.m.stamp : Int), .int .i64 p.m.service, .slice p.m.da p.m.ds.length p.m.dc, .string p.m.pay, .int .u64 (p.stamp : Int), .int .u32 (p.sent : Int), .slice p.ga p.got.length p.gc, .int .u64 (p.hor : Int), .int .i64 p.whom, .int .u32 (p.seq : Int), .int .u64 (p.mem : Int), .int .u64 (p.pe : Int), .int .i64 p.pr, .int .u64 (p.epoch : Int), .slice p.xa p.xs.length p.xc] := by rw [pktA, hkd]
  have hmz : pktA zeroP = #[.int .i64 0, .int .i64 0, .int .i64 0, .int .u64 0, .int .i64 0, .int .i64 0, .int .u32 0, .int .u64 0, .int .i64 0, .slice none 0 0, .string ⟨#[]⟩, .int .u64 0, .int .u32 0, .slice none 0 0, .int .u64 0, .int .i64 0, .int .u32 0, .int .u64 0, .int .u64 0, .int .i64 0, .int .u64 0, .slice none 0 0] := rfl
  have hr := range_of_block hs.a
  rw [← hN] at hr
  have c0 : W.cell? ⟨N, 0, none⟩ = some (.int .i64 4) := by rw [← hkd]; exact hr 0 _ rfl
  have c1 : W.cell? ⟨N, 1, none⟩ = some (.int .i64 p.frm) := hr 1 _ rfl
  have c2 : W.cell? ⟨N, 2, none⟩ = some (.int .i64 p.dst) := hr 2 _ rfl
  rw [hma, hmz] at hW
  rw [hmz] at hW4 hza
  rw [hma]
  rw [hkd] at hbld
  have HBD := Lib.hid (And.intro hbld hza)
  have HQ := Lib.hid hkd
  have HST := Lib.hid hst
  clear hp hmz hma hs hst hsz hr hZ hbld hza hkd
  go_enter Try.func16, Try.ntmps16
  go_upto_region 1 with (fail)
  rw [← hW, ← hN]
  clear hW hN
  refine wp_region_lit ?_
  iterate 6
    refine wpList_step (fun K hK => ?_)
    go_simp
    refine hK _ _ ?_
    clear hK K
    (try simp only [Act.put, List.setIfInBounds_toArray, List.set_cons_zero, List.set_cons_succ])
  refine wpList_buildZ rfl 35 #[(0, .tmp 5), (1, .tmp 7), (2, .tmp 9)] rfl Z (by simp only [List.map_toArray, List.map_cons, List.map_nil]; exact HBD.out.1) ?_
  (try simp only [Act.put, List.setIfInBounds_toArray, List.set_cons_zero, List.set_cons_succ])
  iterate 1
    refine wpList_step (fun K hK => ?_)
    go_simp
    refine hK _ _ ?_
    clear hK K
    (try simp only [Act.put, List.setIfInBounds_toArray, List.set_cons_zero, List.set_cons_succ])
  refine wpList_store_row rfl 35 (.tmp 3) (.tmp 10) rfl (N + 1 + 1) Z (by rw [← HSZ.out]; rfl) rfl 35 _ HBD.out.2 (by rw [HZ.out.1]; kernel_rfl) (by rw [HZ.out.1]; rfl) HZ.out.2 ?_
  (try simp only [Act.put, List.setIfInBounds_toArray, List.set_cons_zero, List.set_cons_succ])
  refine wpList_nil ?_
  rw [← hW4, HSZ.out]
  clear hW4 c0 c1 c2 HBD HZ
  go_upto_region 2 with (fail)
  have c0 : W4.cell? ⟨N, 0, none⟩ = some (.int .i64 4) := by rw [← HQ.out]; exact (HST.out.src HN.out) 0 _ rfl
  have c3 : W4.cell? ⟨N, 3, none⟩ = some (.int .u64 (p.ce : Int)) := (HST.out.src HN.out) 3 _ rfl
  have c4 : W4.cell? ⟨N, 4, none⟩ = some (.int .i64 p.cr) := (HST.out.src HN.out) 4 _ rfl
  have d3 : W4.cell? ⟨N + 1 + 1, 3, none⟩ = some (.int .u64 0) := (HST.out.dst HN.out 3).1
  have d4 : W4.cell? ⟨N + 1 + 1, 4, none⟩ = some (.int .i64 0) := (HST.out.dst HN.out 4).1
  have f3 : W4.frozen? ⟨N + 1 + 1, 3, none⟩ = false := (HST.out.dst HN.out 3).2
  have f4 : W4.frozen? ⟨N + 1 + 1, 4, none⟩ = false := (HST.out.dst HN.out 4).2
  go_upto_region 4 with (fail)
  obtain ⟨W5, hW5⟩ : ∃ W5, W5 = (W4.setCell ⟨N + 1 + 1, 3, none⟩ (.int .u64 (p.ce : Int))).setCell ⟨N + 1 + 1, 4, none⟩ (.int .i64 p.cr) := ⟨_, rfl⟩
  rw [← hW5]
  have hst : ClnSt w W5 p (selC p) := by
    rw [hW5, HN.out]
    exact (HST.out.set (r := { selZ p with ce := p.ce }) 3 _ rfl).set 4 _ rfl
  clear hW5 c0 c3 c4 d3 d4 f3 f4 HST
  have hr := hst.src HN.out
  have c0 : W5.cell? ⟨N, 0, none⟩ = some (.int .i64 4) := by rw [← HQ.out]; exact hr 0 _ rfl
  have hS : ∀ (W' : World) (q : Pkt), ClnSt w W' p q → W'.cell? ⟨N, 18, none⟩ = some (.int .u64 (p.pe : Int)) ∧ W'.cell? ⟨N, 19, none⟩ = some (.int .i64 p.pr) ∧ W'.cell? ⟨N, 20, none⟩ = some (.int .u64 (p.epoch : Int)) ∧ W'.cell? ⟨N, 17, none⟩ = some (.int .u64 (p.mem : Int)) := fun W' q h => ⟨(h.src HN.out) 18 _ rfl, (h.src HN.out) 19 _ rfl, (h.src HN.out) 20 _ rfl, (h.src HN.out) 17 _ rfl⟩
  have HS := Lib.hid hS
  have HST := Lib.hid hst
  clear hst hr hS
  go_upto_region 13 with (fail)
  refine wp_region_mask (fun w' => w'.cell? ⟨N, 18, none⟩ = some (.int .u64 (p.pe : Int)) ∧ w'.cell? ⟨N, 19, none⟩ = some (.int .i64 p.pr) ∧ w'.cell? ⟨N, 20, none⟩ = some (.int .u64 (p.epoch : Int)) ∧ w'.cell? ⟨N, 17, none⟩ = some (.int .u64 (p.mem : Int))) 11 5 [true, true, true, true, true, true, true, false, false, false, false, false] #[true, true, true, true, true, true, true, false, false, false, false, false] (by kernel_rfl) (by kernel_rfl) (by kernel_rfl) (HS.out _ _ HST.out.drew) ?_
  have hs0 := HST.out.drew
  generalize W5.drew = V0 at *
  have HS0 := Lib.hid hs0
  clear hs0
  iterate 7
    refine wpMask_take _ (Or.inl ⟨by rfl, fun w' hS => by (try dsimp only at hS); go_simp; try with_reducible rfl⟩) ?_
    simp only [Act.put, List.setIfInBounds_toArray, List.set_cons_zero, List.set_cons_succ]
  refine wpMask_skip (wpMask_skip (wpMask_skip (wpMask_skip (wpMask_skip (wpMask_nil ?_)))))
  have d18 : V0.cell? ⟨N + 1 + 1, 18, none⟩ = some (.int .u64 0) := (HS0.out.dst HN.out 18).1
  have f18 : V0.frozen? ⟨N + 1 + 1, 18, none⟩ = false := (HS0.out.dst HN.out 18).2
  have d19 : V0.cell? ⟨N + 1 + 1, 19, none⟩ = some (.int .i64 0) := (HS0.out.dst HN.out 19).1
  have f19 : V0.frozen? ⟨N + 1 + 1, 19, none⟩ = false := (HS0.out.dst HN.out 19).2
  obtain ⟨V1, hV⟩ : ∃ V1, V1 = ((V0.setCell ⟨N + 1 + 1, 18, none⟩ (.int .u64 (p.pe : Int))).setCell ⟨N + 1 + 1, 19, none⟩ (.int .i64 p.pr)) := ⟨_, rfl⟩
  have HS1 := Lib.hid (show ClnSt w V1 p ({ selC p with pe := p.pe, pr := p.pr }) from by
    rw [hV, HN.out]
    exact (HS0.out.set (r := { selC p with pe := p.pe }) 18 _ rfl).set 19 _ rfl)
  refine wpAnyS_ready (rs := [7]) (by kernel_rfl) (by simp) ?_
  refine AllReadyS.cons rfl (fun K hK => ?_) AllReadyS.nil
  go_simp
  rw [← hV]
  refine hK.out _ _ (fun _ => HS.out _ _ HS1.out) ?_
  clear hK K hV d18 f18 d19 f19
  simp only [Act.put, List.setIfInBounds_toArray, List.set_cons_zero, List.set_cons_succ]
  refine wpAnyS_ready (rs := [8]) (by kernel_rfl) (by simp) ?_
  refine AllReadyS.cons rfl (fun K hK => ?_) AllReadyS.nil
  go_simp
  refine hK.out _ _ (fun _ => HS.out _ _ HS1.out) ?_
  clear hK K
  simp only [Act.put, List.setIfInBounds_toArray, List.set_cons_zero, List.set_cons_succ]
  have d20 : V1.cell? ⟨N + 1 + 1, 20, none⟩ = some (.int .u64 0) := (HS1.out.dst HN.out 20).1
  have f20 : V1.frozen? ⟨N + 1 + 1, 20, none⟩ = false := (HS1.out.dst HN.out 20).2
  obtain ⟨V2, hV⟩ : ∃ V2, V2 = (V1.setCell ⟨N + 1 + 1, 20, none⟩ (.int .u64 (p.epoch : Int))) := ⟨_, rfl⟩
  have HS2 := Lib.hid (show ClnSt w V2 p ({ selC p with pe := p.pe, pr := p.pr, epoch := p.epoch }) from by rw [hV, HN.out]; exact HS1.out.set 20 _ rfl)
  refine wpAnyS_ready (rs := [9]) (by kernel_rfl) (by simp) ?_
  refine AllReadyS.cons rfl (fun K hK => ?_) AllReadyS.nil
  go_simp
  rw [← hV]
  refine hK.out _ _ (fun _ => HS.out _ _ HS2.out) ?_
  clear hK K hV d20 f20
  simp only [Act.put, List.setIfInBounds_toArray, List.set_cons_zero, List.set_cons_succ]
  refine wpAnyS_ready (rs := [10]) (by kernel_rfl) (by simp) ?_
  refine AllReadyS.cons rfl (fun K hK => ?_) AllReadyS.nil
  go_simp
  refine hK.out _ _ (fun _ => HS.out _ _ HS2.out) ?_
  clear hK K
  simp only [Act.put, List.setIfInBounds_toArray, List.set_cons_zero, List.set_cons_succ]
  have d17 : V2.cell? ⟨N + 1 + 1, 17, none⟩ = some (.int .u64 0) := (HS2.out.dst HN.out 17).1
  have f17 : V2.frozen? ⟨N + 1 + 1, 17, none⟩ = false := (HS2.out.dst HN.out 17).2
  obtain ⟨V3, hV⟩ : ∃ V3, V3 = (V2.setCell ⟨N + 1 + 1, 17, none⟩ (.int .u64 (p.mem : Int))) := ⟨_, rfl⟩
  have HS3 := Lib.hid (show ClnSt w V3 p ({ selC p with pe := p.pe, pr := p.pr, epoch := p.epoch, mem := p.mem }) from by rw [hV, HN.out]; exact HS2.out.set 17 _ rfl)
  refine wpAnyS_ready (rs := [11]) (by kernel_rfl) (by simp) ?_
  refine AllReadyS.cons rfl (fun K hK => ?_) AllReadyS.nil
  go_simp
  rw [← hV]
  refine hK.out _ _ (fun _ => HS.out _ _ HS3.out) ?_
  clear hK K hV d17 f17
  simp only [Act.put, List.setIfInBounds_toArray, List.set_cons_zero, List.set_cons_succ]
  refine wpAnyS_done (by kernel_rfl) ?_ _
  go_upto_region 23 with (fail)
  clear c0
  have hq : { selC p with pe := p.pe, pr := p.pr, epoch := p.epoch, mem := p.mem } = selP p := by unfold selP; have := HQ.out; simp [this]
  have hs9 : ClnSt w V3 p (selP p) := by rw [← hq]; exact HS3.out
  have hA := (show ClnSt w V3 p (selP p) from hs9).q
  have HO := Lib.hid (own_any (selP p) V3 ((selP_ok HP.out).below hs9.st.bel))
  have H9 := Lib.hid hs9
  clear hs9 hq
  generalize hAA : pktA (selP p) = A at hA HO
  have hA1 : A.size = 22 := by rw [← hAA]; rfl
  rw [show w.heap.size + 2 = N + 1 + 1 from by rw [HN.out]] at hA
  have HA := Lib.hid (And.intro hA (And.intro hA1 hAA))
  clear hA hA1 hAA
  go_wp2_with (refine wpList_load_row rfl 35 (.tmp 3) rfl (N + 1 + 1) rfl 35 A (0, 0) _ HA.out.1 Try.underlying35 rfl (by rw [HA.out.2.1]; kernel_rfl) ?_)
  refine HO.out.mono ?_
  rintro e w7 ⟨⟨q, rfl, hc, ho⟩, hb⟩
  have HE := Lib.hid (clnEnd H9.out hc ho hb)
  have hz : w7.heap[N + 1]? = some (.cells (pktA zeroP) 35 (0, 0)) := by rw [HN.out]; exact (H9.out.st.below hb).b
  generalize hBB : pktA q = B at HE
  have HB := Lib.hid (And.intro hz (And.intro (show B.size = 22 by rw [← hBB]; rfl) (show B.all (·.oneCell') = true by rw [← hBB]; exact oneCell_pktA q)))
  clear hz hBB hc ho hb HO HA
  go_wp2_with (refine wpList_store_row rfl 35 (.tmp 2) (.tmp 98) rfl (N + 1) B rfl rfl 35 _ HB.out.1 (by rw [HB.out.2.1]; kernel_rfl) (by rw [HB.out.2.1]; rfl) HB.out.2.2 ?_)
  rw [← HN.out] at HE
  refine bodyPost_ret (results_cell_row Try.results16 _ _ (N + 1) 35 B (0, 0) _ rfl (setRow_heap _ _ _ _ _ _ HB.out.1) Try.underlying35 rfl (by rw [HB.out.2.1]; kernel_rfl)) rfl ?_
  exact HE.out
set_option maxRecDepth 100000 in
set_option maxHeartbeats 8000000 in
theorem Cln5_any (p : Pkt) (w : World) (hp : PktOk w p) (hkd : p.kind = 5) : Calls Try.prog 16 #[.agg (pktA p)] w fun e w' => OwnEnd (selP p) w e w' := by
  obtain ⟨N, hN⟩ : ∃ N, N = w.heap.size := ⟨_, rfl⟩
  obtain ⟨W, hW⟩ : ∃ W, W = (w.alloc (.cells (pktA p) 35)).alloc (.cells (pktA zeroP) 35) := ⟨_, rfl⟩
  obtain ⟨Z, hZ⟩ : ∃ Z, Z = pktA (selZ p) := ⟨_, rfl⟩
  have hbld := bldP p
  rw [← hZ] at hbld
  have hs : OwnSt w W p := by rw [hW]; exact two_st w p
  have hsz : W.heap.size = N + 1 + 1 := by rw [hW, hN]; simp
  have hza := heap_alloc_new W (.cells (pktA zeroP) 35)
  rw [hsz] at hza
  obtain ⟨W4, hW4⟩ : ∃ W4, W4 = (W.alloc (.cells (pktA zeroP) 35)).setRow (N + 1 + 1) Z := ⟨_, rfl⟩
  have hst : ClnSt w W4 p (selZ p) := by
    rw [hW4]
    refine ⟨(hs.below (ba (br W) _)).kept (kept_setRow _ _ _) (fun k hk => by rw [hk, hN]; omega), ?_⟩
    rw [← hN, ← hZ]
    exact setRow_heap _ _ _ _ _ _ hza
  have HP := Lib.hid hp
  have HN := Lib.hid hN
  have HSZ := Lib.hid hsz
  have HZ := Lib.hid (And.intro (show Z.size = 22 by rw [hZ]; rfl) (show Z.all (·.oneCell') = true by rw [hZ]; exact oneCell_pktA _))
  have hma : pktA p = #[.int .i64 5, .int .i64 p.frm, .int .i64 p.dst, .int .u64 (p.ce : Int), .int .i64 p.cr, .int .i64 p.m.frm, .int .u32 (p.m.seq : Int), .int .u64 (p.m.stamp : Int), .int .i64 p.m.service, .slice p.m.da p.m.ds.length p.m.dc, .string p.m.pay, .int .u64 (p.stamp : Int), .int .u32 (p.sent : Int), .slice p.ga p.got.length p.gc, .int .u64 (p.hor : Int), .int .i64 p.whom, .int .u32 (p.seq : Int), .int .u64 (p.mem : Int), .int .u64 (p.pe : Int), .int .i64 p.pr, .int .u64 (p.epoch : Int), .slice p.xa p.xs.length p.xc] := by rw [pktA, hkd]
  have hmz : pktA zeroP = #[.int .i64 0, .int .i64 0, .int .i64 0, .int .u64 0, .int .i64 0, .int .i64 0, .int .u32 0, .int .u64 0, .int .i64 0, .slice none 0 0, .string ⟨#[]⟩, .int .u64 0, .int .u32 0, .slice none 0 0, .int .u64 0, .int .i64 0, .int .u32 0, .int .u64 0, .int .u64 0, .int .i64 0, .int .u64 0, .slice none 0 0] := rfl
  have hr := range_of_block hs.a
  rw [← hN] at hr
  have c0 : W.cell? ⟨N, 0, none⟩ = some (.int .i64 5) := by rw [← hkd]; exact hr 0 _ rfl
  have c1 : W.cell? ⟨N, 1, none⟩ = some (.int .i64 p.frm) := hr 1 _ rfl
  have c2 : W.cell? ⟨N, 2, none⟩ = some (.int .i64 p.dst) := hr 2 _ rfl
  rw [hma, hmz] at hW
  rw [hmz] at hW4 hza
  rw [hma]
  rw [hkd] at hbld
  have HBD := Lib.hid (And.intro hbld hza)
  have HQ := Lib.hid hkd
  have HST := Lib.hid hst
  clear hp hmz hma hs hst hsz hr hZ hbld hza hkd
  go_enter Try.func16, Try.ntmps16
  go_upto_region 1 with (fail)
  rw [← hW, ← hN]
  clear hW hN
  refine wp_region_lit ?_
  iterate 6
    refine wpList_step (fun K hK => ?_)
    go_simp
    refine hK _ _ ?_
    clear hK K
    (try simp only [Act.put, List.setIfInBounds_toArray, List.set_cons_zero, List.set_cons_succ])
  refine wpList_buildZ rfl 35 #[(0, .tmp 5), (1, .tmp 7), (2, .tmp 9)] rfl Z (by simp only [List.map_toArray, List.map_cons, List.map_nil]; exact HBD.out.1) ?_
  (try simp only [Act.put, List.setIfInBounds_toArray, List.set_cons_zero, List.set_cons_succ])
  iterate 1
    refine wpList_step (fun K hK => ?_)
    go_simp
    refine hK _ _ ?_
    clear hK K
    (try simp only [Act.put, List.setIfInBounds_toArray, List.set_cons_zero, List.set_cons_succ])
  refine wpList_store_row rfl 35 (.tmp 3) (.tmp 10) rfl (N + 1 + 1) Z (by rw [← HSZ.out]; rfl) rfl 35 _ HBD.out.2 (by rw [HZ.out.1]; kernel_rfl) (by rw [HZ.out.1]; rfl) HZ.out.2 ?_
  (try simp only [Act.put, List.setIfInBounds_toArray, List.set_cons_zero, List.set_cons_succ])
  refine wpList_nil ?_
  rw [← hW4, HSZ.out]
  clear hW4 c0 c1 c2 HBD HZ
  go_upto_region 2 with (fail)
  have c0 : W4.cell? ⟨N, 0, none⟩ = some (.int .i64 5) := by rw [← HQ.out]; exact (HST.out.src HN.out) 0 _ rfl
  have c3 : W4.cell? ⟨N, 3, none⟩ = some (.int .u64 (p.ce : Int)) := (HST.out.src HN.out) 3 _ rfl
  have c4 : W4.cell? ⟨N, 4, none⟩ = some (.int .i64 p.cr) := (HST.out.src HN.out) 4 _ rfl
  have d3 : W4.cell? ⟨N + 1 + 1, 3, none⟩ = some (.int .u64 0) := (HST.out.dst HN.out 3).1
  have d4 : W4.cell? ⟨N + 1 + 1, 4, none⟩ = some (.int .i64 0) := (HST.out.dst HN.out 4).1
  have f3 : W4.frozen? ⟨N + 1 + 1, 3, none⟩ = false := (HST.out.dst HN.out 3).2
  have f4 : W4.frozen? ⟨N + 1 + 1, 4, none⟩ = false := (HST.out.dst HN.out 4).2
  go_upto_region 4 with (fail)
  obtain ⟨W5, hW5⟩ : ∃ W5, W5 = (W4.setCell ⟨N + 1 + 1, 3, none⟩ (.int .u64 (p.ce : Int))).setCell ⟨N + 1 + 1, 4, none⟩ (.int .i64 p.cr) := ⟨_, rfl⟩
  rw [← hW5]
  have hst : ClnSt w W5 p (selC p) := by
    rw [hW5, HN.out]
    exact (HST.out.set (r := { selZ p with ce := p.ce }) 3 _ rfl).set 4 _ rfl
  clear hW5 c0 c3 c4 d3 d4 f3 f4 HST
  have hr := hst.src HN.out
  have c0 : W5.cell? ⟨N, 0, none⟩ = some (.int .i64 5) := by rw [← HQ.out]; exact hr 0 _ rfl
  have c17 : W5.cell? ⟨N, 17, none⟩ = some (.int .u64 (p.mem : Int)) := hr 17 _ rfl
  have d17 : W5.cell? ⟨N + 1 + 1, 17, none⟩ = some (.int .u64 0) := (hst.dst HN.out 17).1
  have f17 : W5.frozen? ⟨N + 1 + 1, 17, none⟩ = false := (hst.dst HN.out 17).2
  have HST := Lib.hid hst
  clear hst hr
  go_upto_region 23 with (fail)
  obtain ⟨W6, hW6⟩ : ∃ W6, W6 = W5.setCell ⟨N + 1 + 1, 17, none⟩ (.int .u64 (p.mem : Int)) := ⟨_, rfl⟩
  rw [← hW6]
  have hs6 : ClnSt w W6 p ({ selC p with mem := p.mem }) := by rw [hW6, HN.out]; exact HST.out.set 17 _ rfl
  clear hW6 c17 d17 f17
  clear c0
  have hq : { selC p with mem := p.mem } = selP p := by unfold selP; have := HQ.out; simp [this]
  have hs9 : ClnSt w W6 p (selP p) := by rw [← hq]; exact hs6
  have hA := (show ClnSt w W6 p (selP p) from hs9).q
  have HO := Lib.hid (own_any (selP p) W6 ((selP_ok HP.out).below hs9.st.bel))
  have H9 := Lib.hid hs9
  clear hs9 hq
  generalize hAA : pktA (selP p) = A at hA HO
  have hA1 : A.size = 22 := by rw [← hAA]; rfl
  rw [show w.heap.size + 2 = N + 1 + 1 from by rw [HN.out]] at hA
  have HA := Lib.hid (And.intro hA (And.intro hA1 hAA))
  clear hA hA1 hAA
  go_wp2_with (refine wpList_load_row rfl 35 (.tmp 3) rfl (N + 1 + 1) rfl 35 A (0, 0) _ HA.out.1 Try.underlying35 rfl (by rw [HA.out.2.1]; kernel_rfl) ?_)
  refine HO.out.mono ?_
  rintro e w7 ⟨⟨q, rfl, hc, ho⟩, hb⟩
  have HE := Lib.hid (clnEnd H9.out hc ho hb)
  have hz : w7.heap[N + 1]? = some (.cells (pktA zeroP) 35 (0, 0)) := by rw [HN.out]; exact (H9.out.st.below hb).b
  generalize hBB : pktA q = B at HE
  have HB := Lib.hid (And.intro hz (And.intro (show B.size = 22 by rw [← hBB]; rfl) (show B.all (·.oneCell') = true by rw [← hBB]; exact oneCell_pktA q)))
  clear hz hBB hc ho hb HO HA
  go_wp2_with (refine wpList_store_row rfl 35 (.tmp 2) (.tmp 98) rfl (N + 1) B rfl rfl 35 _ HB.out.1 (by rw [HB.out.2.1]; kernel_rfl) (by rw [HB.out.2.1]; rfl) HB.out.2.2 ?_)
  rw [← HN.out] at HE
  refine bodyPost_ret (results_cell_row Try.results16 _ _ (N + 1) 35 B (0, 0) _ rfl (setRow_heap _ _ _ _ _ _ HB.out.1) Try.underlying35 rfl (by rw [HB.out.2.1]; kernel_rfl)) rfl ?_
  exact HE.out
set_option maxRecDepth 100000 in
set_option maxHeartbeats 8000000 in
theorem Cln6_any (p : Pkt) (w : World) (hp : PktOk w p) (hkd : p.kind = 6) : Calls Try.prog 16 #[.agg (pktA p)] w fun e w' => OwnEnd (selP p) w e w' := by
  obtain ⟨N, hN⟩ : ∃ N, N = w.heap.size := ⟨_, rfl⟩
  obtain ⟨W, hW⟩ : ∃ W, W = (w.alloc (.cells (pktA p) 35)).alloc (.cells (pktA zeroP) 35) := ⟨_, rfl⟩
  obtain ⟨Z, hZ⟩ : ∃ Z, Z = pktA (selZ p) := ⟨_, rfl⟩
  have hbld := bldP p
  rw [← hZ] at hbld
  have hs : OwnSt w W p := by rw [hW]; exact two_st w p
  have hsz : W.heap.size = N + 1 + 1 := by rw [hW, hN]; simp
  have hza := heap_alloc_new W (.cells (pktA zeroP) 35)
  rw [hsz] at hza
  obtain ⟨W4, hW4⟩ : ∃ W4, W4 = (W.alloc (.cells (pktA zeroP) 35)).setRow (N + 1 + 1) Z := ⟨_, rfl⟩
  have hst : ClnSt w W4 p (selZ p) := by
    rw [hW4]
    refine ⟨(hs.below (ba (br W) _)).kept (kept_setRow _ _ _) (fun k hk => by rw [hk, hN]; omega), ?_⟩
    rw [← hN, ← hZ]
    exact setRow_heap _ _ _ _ _ _ hza
  have HP := Lib.hid hp
  have HN := Lib.hid hN
  have HSZ := Lib.hid hsz
  have HZ := Lib.hid (And.intro (show Z.size = 22 by rw [hZ]; rfl) (show Z.all (·.oneCell') = true by rw [hZ]; exact oneCell_pktA _))
  have hma : pktA p = #[.int .i64 6, .int .i64 p.frm, .int .i64 p.dst, .int .u64 (p.ce : Int), .int .i64 p.cr, .int .i64 p.m.frm, .int .u32 (p.m.seq : Int), .int .u64 (p.m.stamp : Int), .int .i64 p.m.service, .slice p.m.da p.m.ds.length p.m.dc, .string p.m.pay, .int .u64 (p.stamp : Int), .int .u32 (p.sent : Int), .slice p.ga p.got.length p.gc, .int .u64 (p.hor : Int), .int .i64 p.whom, .int .u32 (p.seq : Int), .int .u64 (p.mem : Int), .int .u64 (p.pe : Int), .int .i64 p.pr, .int .u64 (p.epoch : Int), .slice p.xa p.xs.length p.xc] := by rw [pktA, hkd]
  have hmz : pktA zeroP = #[.int .i64 0, .int .i64 0, .int .i64 0, .int .u64 0, .int .i64 0, .int .i64 0, .int .u32 0, .int .u64 0, .int .i64 0, .slice none 0 0, .string ⟨#[]⟩, .int .u64 0, .int .u32 0, .slice none 0 0, .int .u64 0, .int .i64 0, .int .u32 0, .int .u64 0, .int .u64 0, .int .i64 0, .int .u64 0, .slice none 0 0] := rfl
  have hr := range_of_block hs.a
  rw [← hN] at hr
  have c0 : W.cell? ⟨N, 0, none⟩ = some (.int .i64 6) := by rw [← hkd]; exact hr 0 _ rfl
  have c1 : W.cell? ⟨N, 1, none⟩ = some (.int .i64 p.frm) := hr 1 _ rfl
  have c2 : W.cell? ⟨N, 2, none⟩ = some (.int .i64 p.dst) := hr 2 _ rfl
  rw [hma, hmz] at hW
  rw [hmz] at hW4 hza
  rw [hma]
  rw [hkd] at hbld
  have HBD := Lib.hid (And.intro hbld hza)
  have HQ := Lib.hid hkd
  have HST := Lib.hid hst
  clear hp hmz hma hs hst hsz hr hZ hbld hza hkd
  go_enter Try.func16, Try.ntmps16
  go_upto_region 1 with (fail)
  rw [← hW, ← hN]
  clear hW hN
  refine wp_region_lit ?_
  iterate 6
    refine wpList_step (fun K hK => ?_)
    go_simp
    refine hK _ _ ?_
    clear hK K
    (try simp only [Act.put, List.setIfInBounds_toArray, List.set_cons_zero, List.set_cons_succ])
  refine wpList_buildZ rfl 35 #[(0, .tmp 5), (1, .tmp 7), (2, .tmp 9)] rfl Z (by simp only [List.map_toArray, List.map_cons, List.map_nil]; exact HBD.out.1) ?_
  (try simp only [Act.put, List.setIfInBounds_toArray, List.set_cons_zero, List.set_cons_succ])
  iterate 1
    refine wpList_step (fun K hK => ?_)
    go_simp
    refine hK _ _ ?_
    clear hK K
    (try simp only [Act.put, List.setIfInBounds_toArray, List.set_cons_zero, List.set_cons_succ])
  refine wpList_store_row rfl 35 (.tmp 3) (.tmp 10) rfl (N + 1 + 1) Z (by rw [← HSZ.out]; rfl) rfl 35 _ HBD.out.2 (by rw [HZ.out.1]; kernel_rfl) (by rw [HZ.out.1]; rfl) HZ.out.2 ?_
  (try simp only [Act.put, List.setIfInBounds_toArray, List.set_cons_zero, List.set_cons_succ])
  refine wpList_nil ?_
  rw [← hW4, HSZ.out]
  clear hW4 c0 c1 c2 HBD HZ
  go_upto_region 2 with (fail)
  have c0 : W4.cell? ⟨N, 0, none⟩ = some (.int .i64 6) := by rw [← HQ.out]; exact (HST.out.src HN.out) 0 _ rfl
  have c3 : W4.cell? ⟨N, 3, none⟩ = some (.int .u64 (p.ce : Int)) := (HST.out.src HN.out) 3 _ rfl
  have c4 : W4.cell? ⟨N, 4, none⟩ = some (.int .i64 p.cr) := (HST.out.src HN.out) 4 _ rfl
  have d3 : W4.cell? ⟨N + 1 + 1, 3, none⟩ = some (.int .u64 0) := (HST.out.dst HN.out 3).1
  have d4 : W4.cell? ⟨N + 1 + 1, 4, none⟩ = some (.int .i64 0) := (HST.out.dst HN.out 4).1
  have f3 : W4.frozen? ⟨N + 1 + 1, 3, none⟩ = false := (HST.out.dst HN.out 3).2
  have f4 : W4.frozen? ⟨N + 1 + 1, 4, none⟩ = false := (HST.out.dst HN.out 4).2
  go_upto_region 4 with (fail)
  obtain ⟨W5, hW5⟩ : ∃ W5, W5 = (W4.setCell ⟨N + 1 + 1, 3, none⟩ (.int .u64 (p.ce : Int))).setCell ⟨N + 1 + 1, 4, none⟩ (.int .i64 p.cr) := ⟨_, rfl⟩
  rw [← hW5]
  have hst : ClnSt w W5 p (selC p) := by
    rw [hW5, HN.out]
    exact (HST.out.set (r := { selZ p with ce := p.ce }) 3 _ rfl).set 4 _ rfl
  clear hW5 c0 c3 c4 d3 d4 f3 f4 HST
  have hr := hst.src HN.out
  have c0 : W5.cell? ⟨N, 0, none⟩ = some (.int .i64 6) := by rw [← HQ.out]; exact hr 0 _ rfl
  have c21 : W5.cell? ⟨N, 21, none⟩ = some (.slice p.xa p.xs.length p.xc) := hr 21 _ rfl
  have d21 : W5.cell? ⟨N + 1 + 1, 21, none⟩ = some (.slice none 0 0) := (hst.dst HN.out 21).1
  have f21 : W5.frozen? ⟨N + 1 + 1, 21, none⟩ = false := (hst.dst HN.out 21).2
  have HST := Lib.hid hst
  clear hst hr
  go_upto_region 23 with (fail)
  obtain ⟨W6, hW6⟩ : ∃ W6, W6 = W5.setCell ⟨N + 1 + 1, 21, none⟩ (.slice p.xa p.xs.length p.xc) := ⟨_, rfl⟩
  rw [← hW6]
  have hs6 : ClnSt w W6 p ({ selC p with xs := p.xs, xa := p.xa, xc := p.xc }) := by rw [hW6, HN.out]; exact HST.out.set 21 _ rfl
  clear hW6 c21 d21 f21
  clear c0
  have hq : { selC p with xs := p.xs, xa := p.xa, xc := p.xc } = selP p := by unfold selP; have := HQ.out; simp [this]
  have hs9 : ClnSt w W6 p (selP p) := by rw [← hq]; exact hs6
  have hA := (show ClnSt w W6 p (selP p) from hs9).q
  have HO := Lib.hid (own_any (selP p) W6 ((selP_ok HP.out).below hs9.st.bel))
  have H9 := Lib.hid hs9
  clear hs9 hq
  generalize hAA : pktA (selP p) = A at hA HO
  have hA1 : A.size = 22 := by rw [← hAA]; rfl
  rw [show w.heap.size + 2 = N + 1 + 1 from by rw [HN.out]] at hA
  have HA := Lib.hid (And.intro hA (And.intro hA1 hAA))
  clear hA hA1 hAA
  go_wp2_with (refine wpList_load_row rfl 35 (.tmp 3) rfl (N + 1 + 1) rfl 35 A (0, 0) _ HA.out.1 Try.underlying35 rfl (by rw [HA.out.2.1]; kernel_rfl) ?_)
  refine HO.out.mono ?_
  rintro e w7 ⟨⟨q, rfl, hc, ho⟩, hb⟩
  have HE := Lib.hid (clnEnd H9.out hc ho hb)
  have hz : w7.heap[N + 1]? = some (.cells (pktA zeroP) 35 (0, 0)) := by rw [HN.out]; exact (H9.out.st.below hb).b
  generalize hBB : pktA q = B at HE
  have HB := Lib.hid (And.intro hz (And.intro (show B.size = 22 by rw [← hBB]; rfl) (show B.all (·.oneCell') = true by rw [← hBB]; exact oneCell_pktA q)))
  clear hz hBB hc ho hb HO HA
  go_wp2_with (refine wpList_store_row rfl 35 (.tmp 2) (.tmp 98) rfl (N + 1) B rfl rfl 35 _ HB.out.1 (by rw [HB.out.2.1]; kernel_rfl) (by rw [HB.out.2.1]; rfl) HB.out.2.2 ?_)
  rw [← HN.out] at HE
  refine bodyPost_ret (results_cell_row Try.results16 _ _ (N + 1) 35 B (0, 0) _ rfl (setRow_heap _ _ _ _ _ _ HB.out.1) Try.underlying35 rfl (by rw [HB.out.2.1]; kernel_rfl)) rfl ?_
  exact HE.out
set_option maxRecDepth 100000 in
set_option maxHeartbeats 8000000 in
theorem Cln7_any (p : Pkt) (w : World) (hp : PktOk w p) (hkd : p.kind = 7) : Calls Try.prog 16 #[.agg (pktA p)] w fun e w' => OwnEnd (selP p) w e w' := by
  obtain ⟨N, hN⟩ : ∃ N, N = w.heap.size := ⟨_, rfl⟩
  obtain ⟨W, hW⟩ : ∃ W, W = (w.alloc (.cells (pktA p) 35)).alloc (.cells (pktA zeroP) 35) := ⟨_, rfl⟩
  obtain ⟨Z, hZ⟩ : ∃ Z, Z = pktA (selZ p) := ⟨_, rfl⟩
  have hbld := bldP p
  rw [← hZ] at hbld
  have hs : OwnSt w W p := by rw [hW]; exact two_st w p
  have hsz : W.heap.size = N + 1 + 1 := by rw [hW, hN]; simp
  have hza := heap_alloc_new W (.cells (pktA zeroP) 35)
  rw [hsz] at hza
  obtain ⟨W4, hW4⟩ : ∃ W4, W4 = (W.alloc (.cells (pktA zeroP) 35)).setRow (N + 1 + 1) Z := ⟨_, rfl⟩
  have hst : ClnSt w W4 p (selZ p) := by
    rw [hW4]
    refine ⟨(hs.below (ba (br W) _)).kept (kept_setRow _ _ _) (fun k hk => by rw [hk, hN]; omega), ?_⟩
    rw [← hN, ← hZ]
    exact setRow_heap _ _ _ _ _ _ hza
  have HP := Lib.hid hp
  have HN := Lib.hid hN
  have HSZ := Lib.hid hsz
  have HZ := Lib.hid (And.intro (show Z.size = 22 by rw [hZ]; rfl) (show Z.all (·.oneCell') = true by rw [hZ]; exact oneCell_pktA _))
  have hma : pktA p = #[.int .i64 7, .int .i64 p.frm, .int .i64 p.dst, .int .u64 (p.ce : Int), .int .i64 p.cr, .int .i64 p.m.frm, .int .u32 (p.m.seq : Int), .int .u64 (p.m.stamp : Int), .int .i64 p.m.service, .slice p.m.da p.m.ds.length p.m.dc, .string p.m.pay, .int .u64 (p.stamp : Int), .int .u32 (p.sent : Int), .slice p.ga p.got.length p.gc, .int .u64 (p.hor : Int), .int .i64 p.whom, .int .u32 (p.seq : Int), .int .u64 (p.mem : Int), .int .u64 (p.pe : Int), .int .i64 p.pr, .int .u64 (p.epoch : Int), .slice p.xa p.xs.length p.xc] := by rw [pktA, hkd]
  have hmz : pktA zeroP = #[.int .i64 0, .int .i64 0, .int .i64 0, .int .u64 0, .int .i64 0, .int .i64 0, .int .u32 0, .int .u64 0, .int .i64 0, .slice none 0 0, .string ⟨#[]⟩, .int .u64 0, .int .u32 0, .slice none 0 0, .int .u64 0, .int .i64 0, .int .u32 0, .int .u64 0, .int .u64 0, .int .i64 0, .int .u64 0, .slice none 0 0] := rfl
  have hr := range_of_block hs.a
  rw [← hN] at hr
  have c0 : W.cell? ⟨N, 0, none⟩ = some (.int .i64 7) := by rw [← hkd]; exact hr 0 _ rfl
  have c1 : W.cell? ⟨N, 1, none⟩ = some (.int .i64 p.frm) := hr 1 _ rfl
  have c2 : W.cell? ⟨N, 2, none⟩ = some (.int .i64 p.dst) := hr 2 _ rfl
  rw [hma, hmz] at hW
  rw [hmz] at hW4 hza
  rw [hma]
  rw [hkd] at hbld
  have HBD := Lib.hid (And.intro hbld hza)
  have HQ := Lib.hid hkd
  have HST := Lib.hid hst
  clear hp hmz hma hs hst hsz hr hZ hbld hza hkd
  go_enter Try.func16, Try.ntmps16
  go_upto_region 1 with (fail)
  rw [← hW, ← hN]
  clear hW hN
  refine wp_region_lit ?_
  iterate 6
    refine wpList_step (fun K hK => ?_)
    go_simp
    refine hK _ _ ?_
    clear hK K
    (try simp only [Act.put, List.setIfInBounds_toArray, List.set_cons_zero, List.set_cons_succ])
  refine wpList_buildZ rfl 35 #[(0, .tmp 5), (1, .tmp 7), (2, .tmp 9)] rfl Z (by simp only [List.map_toArray, List.map_cons, List.map_nil]; exact HBD.out.1) ?_
  (try simp only [Act.put, List.setIfInBounds_toArray, List.set_cons_zero, List.set_cons_succ])
  iterate 1
    refine wpList_step (fun K hK => ?_)
    go_simp
    refine hK _ _ ?_
    clear hK K
    (try simp only [Act.put, List.setIfInBounds_toArray, List.set_cons_zero, List.set_cons_succ])
  refine wpList_store_row rfl 35 (.tmp 3) (.tmp 10) rfl (N + 1 + 1) Z (by rw [← HSZ.out]; rfl) rfl 35 _ HBD.out.2 (by rw [HZ.out.1]; kernel_rfl) (by rw [HZ.out.1]; rfl) HZ.out.2 ?_
  (try simp only [Act.put, List.setIfInBounds_toArray, List.set_cons_zero, List.set_cons_succ])
  refine wpList_nil ?_
  rw [← hW4, HSZ.out]
  clear hW4 c0 c1 c2 HBD HZ
  go_upto_region 2 with (fail)
  have c0 : W4.cell? ⟨N, 0, none⟩ = some (.int .i64 7) := by rw [← HQ.out]; exact (HST.out.src HN.out) 0 _ rfl
  have c3 : W4.cell? ⟨N, 3, none⟩ = some (.int .u64 (p.ce : Int)) := (HST.out.src HN.out) 3 _ rfl
  have c4 : W4.cell? ⟨N, 4, none⟩ = some (.int .i64 p.cr) := (HST.out.src HN.out) 4 _ rfl
  have d3 : W4.cell? ⟨N + 1 + 1, 3, none⟩ = some (.int .u64 0) := (HST.out.dst HN.out 3).1
  have d4 : W4.cell? ⟨N + 1 + 1, 4, none⟩ = some (.int .i64 0) := (HST.out.dst HN.out 4).1
  have f3 : W4.frozen? ⟨N + 1 + 1, 3, none⟩ = false := (HST.out.dst HN.out 3).2
  have f4 : W4.frozen? ⟨N + 1 + 1, 4, none⟩ = false := (HST.out.dst HN.out 4).2
  go_upto_region 4 with (fail)
  obtain ⟨W5, hW5⟩ : ∃ W5, W5 = (W4.setCell ⟨N + 1 + 1, 3, none⟩ (.int .u64 (p.ce : Int))).setCell ⟨N + 1 + 1, 4, none⟩ (.int .i64 p.cr) := ⟨_, rfl⟩
  rw [← hW5]
  have hst : ClnSt w W5 p (selC p) := by
    rw [hW5, HN.out]
    exact (HST.out.set (r := { selZ p with ce := p.ce }) 3 _ rfl).set 4 _ rfl
  clear hW5 c0 c3 c4 d3 d4 f3 f4 HST
  have hr := hst.src HN.out
  have c0 : W5.cell? ⟨N, 0, none⟩ = some (.int .i64 7) := by rw [← HQ.out]; exact hr 0 _ rfl
  have hS : ∀ (W' : World) (q : Pkt), ClnSt w W' p q → W'.cell? ⟨N, 17, none⟩ = some (.int .u64 (p.mem : Int)) ∧ W'.cell? ⟨N, 21, none⟩ = some (.slice p.xa p.xs.length p.xc) := fun W' q h => ⟨(h.src HN.out) 17 _ rfl, (h.src HN.out) 21 _ rfl⟩
  have HS := Lib.hid hS
  have HST := Lib.hid hst
  clear hst hr hS
  go_upto_region 19 with (fail)
  refine wp_region_mask (fun w' => w'.cell? ⟨N, 17, none⟩ = some (.int .u64 (p.mem : Int)) ∧ w'.cell? ⟨N, 21, none⟩ = some (.slice p.xa p.xs.length p.xc)) 7 3 [true, true, true, true, true, false, false, false] #[true, true, true, true, true, false, false, false] (by kernel_rfl) (by kernel_rfl) (by kernel_rfl) (HS.out _ _ HST.out.drew) ?_
  have hs0 := HST.out.drew
  generalize W5.drew = V0 at *
  have HS0 := Lib.hid hs0
  clear hs0
  iterate 5
    refine wpMask_take _ (Or.inl ⟨by rfl, fun w' hS => by (try dsimp only at hS); go_simp; try with_reducible rfl⟩) ?_
    simp only [Act.put, List.setIfInBounds_toArray, List.set_cons_zero, List.set_cons_succ]
  refine wpMask_skip (wpMask_skip (wpMask_skip (wpMask_nil ?_)))
  have d17 : V0.cell? ⟨N + 1 + 1, 17, none⟩ = some (.int .u64 0) := (HS0.out.dst HN.out 17).1
  have f17 : V0.frozen? ⟨N + 1 + 1, 17, none⟩ = false := (HS0.out.dst HN.out 17).2
  obtain ⟨V1, hV⟩ : ∃ V1, V1 = (V0.setCell ⟨N + 1 + 1, 17, none⟩ (.int .u64 (p.mem : Int))) := ⟨_, rfl⟩
  have HS1 := Lib.hid (show ClnSt w V1 p ({ selC p with mem := p.mem }) from by rw [hV, HN.out]; exact HS0.out.set 17 _ rfl)
  refine wpAnyS_ready (rs := [5]) (by kernel_rfl) (by simp) ?_
  refine AllReadyS.cons rfl (fun K hK => ?_) AllReadyS.nil
  go_simp
  rw [← hV]
  refine hK.out _ _ (fun _ => HS.out _ _ HS1.out) ?_
  clear hK K hV d17 f17
  simp only [Act.put, List.setIfInBounds_toArray, List.set_cons_zero, List.set_cons_succ]
  refine wpAnyS_ready (rs := [6]) (by kernel_rfl) (by simp) ?_
  refine AllReadyS.cons rfl (fun K hK => ?_) AllReadyS.nil
  go_simp
  refine hK.out _ _ (fun _ => HS.out _ _ HS1.out) ?_
  clear hK K
  simp only [Act.put, List.setIfInBounds_toArray, List.set_cons_zero, List.set_cons_succ]
  have d21 : V1.cell? ⟨N + 1 + 1, 21, none⟩ = some (.slice none 0 0) := (HS1.out.dst HN.out 21).1
  have f21 : V1.frozen? ⟨N + 1 + 1, 21, none⟩ = false := (HS1.out.dst HN.out 21).2
  obtain ⟨V2, hV⟩ : ∃ V2, V2 = (V1.setCell ⟨N + 1 + 1, 21, none⟩ (.slice p.xa p.xs.length p.xc)) := ⟨_, rfl⟩
  have HS2 := Lib.hid (show ClnSt w V2 p ({ selC p with mem := p.mem, xs := p.xs, xa := p.xa, xc := p.xc }) from by rw [hV, HN.out]; exact HS1.out.set 21 _ rfl)
  refine wpAnyS_ready (rs := [7]) (by kernel_rfl) (by simp) ?_
  refine AllReadyS.cons rfl (fun K hK => ?_) AllReadyS.nil
  go_simp
  rw [← hV]
  refine hK.out _ _ (fun _ => HS.out _ _ HS2.out) ?_
  clear hK K hV d21 f21
  simp only [Act.put, List.setIfInBounds_toArray, List.set_cons_zero, List.set_cons_succ]
  refine wpAnyS_done (by kernel_rfl) ?_ _
  go_upto_region 23 with (fail)
  clear c0
  have hq : { selC p with mem := p.mem, xs := p.xs, xa := p.xa, xc := p.xc } = selP p := by unfold selP; have := HQ.out; simp [this]
  have hs9 : ClnSt w V2 p (selP p) := by rw [← hq]; exact HS2.out
  have hA := (show ClnSt w V2 p (selP p) from hs9).q
  have HO := Lib.hid (own_any (selP p) V2 ((selP_ok HP.out).below hs9.st.bel))
  have H9 := Lib.hid hs9
  clear hs9 hq
  generalize hAA : pktA (selP p) = A at hA HO
  have hA1 : A.size = 22 := by rw [← hAA]; rfl
  rw [show w.heap.size + 2 = N + 1 + 1 from by rw [HN.out]] at hA
  have HA := Lib.hid (And.intro hA (And.intro hA1 hAA))
  clear hA hA1 hAA
  go_wp2_with (refine wpList_load_row rfl 35 (.tmp 3) rfl (N + 1 + 1) rfl 35 A (0, 0) _ HA.out.1 Try.underlying35 rfl (by rw [HA.out.2.1]; kernel_rfl) ?_)
  refine HO.out.mono ?_
  rintro e w7 ⟨⟨q, rfl, hc, ho⟩, hb⟩
  have HE := Lib.hid (clnEnd H9.out hc ho hb)
  have hz : w7.heap[N + 1]? = some (.cells (pktA zeroP) 35 (0, 0)) := by rw [HN.out]; exact (H9.out.st.below hb).b
  generalize hBB : pktA q = B at HE
  have HB := Lib.hid (And.intro hz (And.intro (show B.size = 22 by rw [← hBB]; rfl) (show B.all (·.oneCell') = true by rw [← hBB]; exact oneCell_pktA q)))
  clear hz hBB hc ho hb HO HA
  go_wp2_with (refine wpList_store_row rfl 35 (.tmp 2) (.tmp 98) rfl (N + 1) B rfl rfl 35 _ HB.out.1 (by rw [HB.out.2.1]; kernel_rfl) (by rw [HB.out.2.1]; rfl) HB.out.2.2 ?_)
  rw [← HN.out] at HE
  refine bodyPost_ret (results_cell_row Try.results16 _ _ (N + 1) 35 B (0, 0) _ rfl (setRow_heap _ _ _ _ _ _ HB.out.1) Try.underlying35 rfl (by rw [HB.out.2.1]; kernel_rfl)) rfl ?_
  exact HE.out
set_option maxRecDepth 100000 in
set_option maxHeartbeats 8000000 in
theorem Cln8_any (p : Pkt) (w : World) (hp : PktOk w p) (hkd : p.kind = 8) : Calls Try.prog 16 #[.agg (pktA p)] w fun e w' => OwnEnd (selP p) w e w' := by
  obtain ⟨N, hN⟩ : ∃ N, N = w.heap.size := ⟨_, rfl⟩
  obtain ⟨W, hW⟩ : ∃ W, W = (w.alloc (.cells (pktA p) 35)).alloc (.cells (pktA zeroP) 35) := ⟨_, rfl⟩
  obtain ⟨Z, hZ⟩ : ∃ Z, Z = pktA (selZ p) := ⟨_, rfl⟩
  have hbld := bldP p
  rw [← hZ] at hbld
  have hs : OwnSt w W p := by rw [hW]; exact two_st w p
  have hsz : W.heap.size = N + 1 + 1 := by rw [hW, hN]; simp
  have hza := heap_alloc_new W (.cells (pktA zeroP) 35)
  rw [hsz] at hza
  obtain ⟨W4, hW4⟩ : ∃ W4, W4 = (W.alloc (.cells (pktA zeroP) 35)).setRow (N + 1 + 1) Z := ⟨_, rfl⟩
  have hst : ClnSt w W4 p (selZ p) := by
    rw [hW4]
    refine ⟨(hs.below (ba (br W) _)).kept (kept_setRow _ _ _) (fun k hk => by rw [hk, hN]; omega), ?_⟩
    rw [← hN, ← hZ]
    exact setRow_heap _ _ _ _ _ _ hza
  have HP := Lib.hid hp
  have HN := Lib.hid hN
  have HSZ := Lib.hid hsz
  have HZ := Lib.hid (And.intro (show Z.size = 22 by rw [hZ]; rfl) (show Z.all (·.oneCell') = true by rw [hZ]; exact oneCell_pktA _))
  have hma : pktA p = #[.int .i64 8, .int .i64 p.frm, .int .i64 p.dst, .int .u64 (p.ce : Int), .int .i64 p.cr, .int .i64 p.m.frm, .int .u32 (p.m.seq : Int), .int .u64 (p.m.stamp : Int), .int .i64 p.m.service, .slice p.m.da p.m.ds.length p.m.dc, .string p.m.pay, .int .u64 (p.stamp : Int), .int .u32 (p.sent : Int), .slice p.ga p.got.length p.gc, .int .u64 (p.hor : Int), .int .i64 p.whom, .int .u32 (p.seq : Int), .int .u64 (p.mem : Int), .int .u64 (p.pe : Int), .int .i64 p.pr, .int .u64 (p.epoch : Int), .slice p.xa p.xs.length p.xc] := by rw [pktA, hkd]
  have hmz : pktA zeroP = #[.int .i64 0, .int .i64 0, .int .i64 0, .int .u64 0, .int .i64 0, .int .i64 0, .int .u32 0, .int .u64 0, .int .i64 0, .slice none 0 0, .string ⟨#[]⟩, .int .u64 0, .int .u32 0, .slice none 0 0, .int .u64 0, .int .i64 0, .int .u32 0, .int .u64 0, .int .u64 0, .int .i64 0, .int .u64 0, .slice none 0 0] := rfl
  have hr := range_of_block hs.a
  rw [← hN] at hr
  have c0 : W.cell? ⟨N, 0, none⟩ = some (.int .i64 8) := by rw [← hkd]; exact hr 0 _ rfl
  have c1 : W.cell? ⟨N, 1, none⟩ = some (.int .i64 p.frm) := hr 1 _ rfl
  have c2 : W.cell? ⟨N, 2, none⟩ = some (.int .i64 p.dst) := hr 2 _ rfl
  rw [hma, hmz] at hW
  rw [hmz] at hW4 hza
  rw [hma]
  rw [hkd] at hbld
  have HBD := Lib.hid (And.intro hbld hza)
  have HQ := Lib.hid hkd
  have HST := Lib.hid hst
  clear hp hmz hma hs hst hsz hr hZ hbld hza hkd
  go_enter Try.func16, Try.ntmps16
  go_upto_region 1 with (fail)
  rw [← hW, ← hN]
  clear hW hN
  refine wp_region_lit ?_
  iterate 6
    refine wpList_step (fun K hK => ?_)
    go_simp
    refine hK _ _ ?_
    clear hK K
    (try simp only [Act.put, List.setIfInBounds_toArray, List.set_cons_zero, List.set_cons_succ])
  refine wpList_buildZ rfl 35 #[(0, .tmp 5), (1, .tmp 7), (2, .tmp 9)] rfl Z (by simp only [List.map_toArray, List.map_cons, List.map_nil]; exact HBD.out.1) ?_
  (try simp only [Act.put, List.setIfInBounds_toArray, List.set_cons_zero, List.set_cons_succ])
  iterate 1
    refine wpList_step (fun K hK => ?_)
    go_simp
    refine hK _ _ ?_
    clear hK K
    (try simp only [Act.put, List.setIfInBounds_toArray, List.set_cons_zero, List.set_cons_succ])
  refine wpList_store_row rfl 35 (.tmp 3) (.tmp 10) rfl (N + 1 + 1) Z (by rw [← HSZ.out]; rfl) rfl 35 _ HBD.out.2 (by rw [HZ.out.1]; kernel_rfl) (by rw [HZ.out.1]; rfl) HZ.out.2 ?_
  (try simp only [Act.put, List.setIfInBounds_toArray, List.set_cons_zero, List.set_cons_succ])
  refine wpList_nil ?_
  rw [← hW4, HSZ.out]
  clear hW4 c0 c1 c2 HBD HZ
  go_upto_region 2 with (fail)
  have c0 : W4.cell? ⟨N, 0, none⟩ = some (.int .i64 8) := by rw [← HQ.out]; exact (HST.out.src HN.out) 0 _ rfl
  have c3 : W4.cell? ⟨N, 3, none⟩ = some (.int .u64 (p.ce : Int)) := (HST.out.src HN.out) 3 _ rfl
  have c4 : W4.cell? ⟨N, 4, none⟩ = some (.int .i64 p.cr) := (HST.out.src HN.out) 4 _ rfl
  have d3 : W4.cell? ⟨N + 1 + 1, 3, none⟩ = some (.int .u64 0) := (HST.out.dst HN.out 3).1
  have d4 : W4.cell? ⟨N + 1 + 1, 4, none⟩ = some (.int .i64 0) := (HST.out.dst HN.out 4).1
  have f3 : W4.frozen? ⟨N + 1 + 1, 3, none⟩ = false := (HST.out.dst HN.out 3).2
  have f4 : W4.frozen? ⟨N + 1 + 1, 4, none⟩ = false := (HST.out.dst HN.out 4).2
  go_upto_region 4 with (fail)
  obtain ⟨W5, hW5⟩ : ∃ W5, W5 = (W4.setCell ⟨N + 1 + 1, 3, none⟩ (.int .u64 (p.ce : Int))).setCell ⟨N + 1 + 1, 4, none⟩ (.int .i64 p.cr) := ⟨_, rfl⟩
  rw [← hW5]
  have hst : ClnSt w W5 p (selC p) := by
    rw [hW5, HN.out]
    exact (HST.out.set (r := { selZ p with ce := p.ce }) 3 _ rfl).set 4 _ rfl
  clear hW5 c0 c3 c4 d3 d4 f3 f4 HST
  have hr := hst.src HN.out
  have c0 : W5.cell? ⟨N, 0, none⟩ = some (.int .i64 8) := by rw [← HQ.out]; exact hr 0 _ rfl
  have hS : ∀ (W' : World) (q : Pkt), ClnSt w W' p q → W'.cell? ⟨N, 15, none⟩ = some (.int .i64 p.whom) ∧ W'.cell? ⟨N, 16, none⟩ = some (.int .u32 (p.seq : Int)) := fun W' q h => ⟨(h.src HN.out) 15 _ rfl, (h.src HN.out) 16 _ rfl⟩
  have HS := Lib.hid hS
  have HST := Lib.hid hst
  clear hst hr hS
  go_upto_region 11 with (fail)
  refine wp_region_mask (fun w' => w'.cell? ⟨N, 15, none⟩ = some (.int .i64 p.whom) ∧ w'.cell? ⟨N, 16, none⟩ = some (.int .u32 (p.seq : Int))) 7 3 [true, true, true, true, true, false, false, false] #[true, true, true, true, true, false, false, false] (by kernel_rfl) (by kernel_rfl) (by kernel_rfl) (HS.out _ _ HST.out.drew) ?_
  have hs0 := HST.out.drew
  generalize W5.drew = V0 at *
  have HS0 := Lib.hid hs0
  clear hs0
  iterate 5
    refine wpMask_take _ (Or.inl ⟨by rfl, fun w' hS => by (try dsimp only at hS); go_simp; try with_reducible rfl⟩) ?_
    simp only [Act.put, List.setIfInBounds_toArray, List.set_cons_zero, List.set_cons_succ]
  refine wpMask_skip (wpMask_skip (wpMask_skip (wpMask_nil ?_)))
  have d15 : V0.cell? ⟨N + 1 + 1, 15, none⟩ = some (.int .i64 0) := (HS0.out.dst HN.out 15).1
  have f15 : V0.frozen? ⟨N + 1 + 1, 15, none⟩ = false := (HS0.out.dst HN.out 15).2
  obtain ⟨V1, hV⟩ : ∃ V1, V1 = (V0.setCell ⟨N + 1 + 1, 15, none⟩ (.int .i64 p.whom)) := ⟨_, rfl⟩
  have HS1 := Lib.hid (show ClnSt w V1 p ({ selC p with whom := p.whom }) from by rw [hV, HN.out]; exact HS0.out.set 15 _ rfl)
  refine wpAnyS_ready (rs := [5]) (by kernel_rfl) (by simp) ?_
  refine AllReadyS.cons rfl (fun K hK => ?_) AllReadyS.nil
  go_simp
  rw [← hV]
  refine hK.out _ _ (fun _ => HS.out _ _ HS1.out) ?_
  clear hK K hV d15 f15
  simp only [Act.put, List.setIfInBounds_toArray, List.set_cons_zero, List.set_cons_succ]
  refine wpAnyS_ready (rs := [6]) (by kernel_rfl) (by simp) ?_
  refine AllReadyS.cons rfl (fun K hK => ?_) AllReadyS.nil
  go_simp
  refine hK.out _ _ (fun _ => HS.out _ _ HS1.out) ?_
  clear hK K
  simp only [Act.put, List.setIfInBounds_toArray, List.set_cons_zero, List.set_cons_succ]
  have d16 : V1.cell? ⟨N + 1 + 1, 16, none⟩ = some (.int .u32 0) := (HS1.out.dst HN.out 16).1
  have f16 : V1.frozen? ⟨N + 1 + 1, 16, none⟩ = false := (HS1.out.dst HN.out 16).2
  obtain ⟨V2, hV⟩ : ∃ V2, V2 = (V1.setCell ⟨N + 1 + 1, 16, none⟩ (.int .u32 (p.seq : Int))) := ⟨_, rfl⟩
  have HS2 := Lib.hid (show ClnSt w V2 p ({ selC p with whom := p.whom, seq := p.seq }) from by rw [hV, HN.out]; exact HS1.out.set 16 _ rfl)
  refine wpAnyS_ready (rs := [7]) (by kernel_rfl) (by simp) ?_
  refine AllReadyS.cons rfl (fun K hK => ?_) AllReadyS.nil
  go_simp
  rw [← hV]
  refine hK.out _ _ (fun _ => HS.out _ _ HS2.out) ?_
  clear hK K hV d16 f16
  simp only [Act.put, List.setIfInBounds_toArray, List.set_cons_zero, List.set_cons_succ]
  refine wpAnyS_done (by kernel_rfl) ?_ _
  go_upto_region 23 with (fail)
  clear c0
  have hq : { selC p with whom := p.whom, seq := p.seq } = selP p := by unfold selP; have := HQ.out; simp [this]
  have hs9 : ClnSt w V2 p (selP p) := by rw [← hq]; exact HS2.out
  have hA := (show ClnSt w V2 p (selP p) from hs9).q
  have HO := Lib.hid (own_any (selP p) V2 ((selP_ok HP.out).below hs9.st.bel))
  have H9 := Lib.hid hs9
  clear hs9 hq
  generalize hAA : pktA (selP p) = A at hA HO
  have hA1 : A.size = 22 := by rw [← hAA]; rfl
  rw [show w.heap.size + 2 = N + 1 + 1 from by rw [HN.out]] at hA
  have HA := Lib.hid (And.intro hA (And.intro hA1 hAA))
  clear hA hA1 hAA
  go_wp2_with (refine wpList_load_row rfl 35 (.tmp 3) rfl (N + 1 + 1) rfl 35 A (0, 0) _ HA.out.1 Try.underlying35 rfl (by rw [HA.out.2.1]; kernel_rfl) ?_)
  refine HO.out.mono ?_
  rintro e w7 ⟨⟨q, rfl, hc, ho⟩, hb⟩
  have HE := Lib.hid (clnEnd H9.out hc ho hb)
  have hz : w7.heap[N + 1]? = some (.cells (pktA zeroP) 35 (0, 0)) := by rw [HN.out]; exact (H9.out.st.below hb).b
  generalize hBB : pktA q = B at HE
  have HB := Lib.hid (And.intro hz (And.intro (show B.size = 22 by rw [← hBB]; rfl) (show B.all (·.oneCell') = true by rw [← hBB]; exact oneCell_pktA q)))
  clear hz hBB hc ho hb HO HA
  go_wp2_with (refine wpList_store_row rfl 35 (.tmp 2) (.tmp 98) rfl (N + 1) B rfl rfl 35 _ HB.out.1 (by rw [HB.out.2.1]; kernel_rfl) (by rw [HB.out.2.1]; rfl) HB.out.2.2 ?_)
  rw [← HN.out] at HE
  refine bodyPost_ret (results_cell_row Try.results16 _ _ (N + 1) 35 B (0, 0) _ rfl (setRow_heap _ _ _ _ _ _ HB.out.1) Try.underlying35 rfl (by rw [HB.out.2.1]; kernel_rfl)) rfl ?_
  exact HE.out
set_option maxRecDepth 100000 in
set_option maxHeartbeats 8000000 in
theorem Cln9_any (p : Pkt) (w : World) (hp : PktOk w p) (hkd : p.kind = 9) : Calls Try.prog 16 #[.agg (pktA p)] w fun e w' => OwnEnd (selP p) w e w' := by
  obtain ⟨N, hN⟩ : ∃ N, N = w.heap.size := ⟨_, rfl⟩
  obtain ⟨W, hW⟩ : ∃ W, W = (w.alloc (.cells (pktA p) 35)).alloc (.cells (pktA zeroP) 35) := ⟨_, rfl⟩
  obtain ⟨Z, hZ⟩ : ∃ Z, Z = pktA (selZ p) := ⟨_, rfl⟩
  have hbld := bldP p
  rw [← hZ] at hbld
  have hs : OwnSt w W p := by rw [hW]; exact two_st w p
  have hsz : W.heap.size = N + 1 + 1 := by rw [hW, hN]; simp
  have hza := heap_alloc_new W (.cells (pktA zeroP) 35)
  rw [hsz] at hza
  obtain ⟨W4, hW4⟩ : ∃ W4, W4 = (W.alloc (.cells (pktA zeroP) 35)).setRow (N + 1 + 1) Z := ⟨_, rfl⟩
  have hst : ClnSt w W4 p (selZ p) := by
    rw [hW4]
    refine ⟨(hs.below (ba (br W) _)).kept (kept_setRow _ _ _) (fun k hk => by rw [hk, hN]; omega), ?_⟩
    rw [← hN, ← hZ]
    exact setRow_heap _ _ _ _ _ _ hza
  have HP := Lib.hid hp
  have HN := Lib.hid hN
  have HSZ := Lib.hid hsz
  have HZ := Lib.hid (And.intro (show Z.size = 22 by rw [hZ]; rfl) (show Z.all (·.oneCell') = true by rw [hZ]; exact oneCell_pktA _))
  have hma : pktA p = #[.int .i64 9, .int .i64 p.frm, .int .i64 p.dst, .int .u64 (p.ce : Int), .int .i64 p.cr, .int .i64 p.m.frm, .int .u32 (p.m.seq : Int), .int .u64 (p.m.stamp : Int), .int .i64 p.m.service, .slice p.m.da p.m.ds.length p.m.dc, .string p.m.pay, .int .u64 (p.stamp : Int), .int .u32 (p.sent : Int), .slice p.ga p.got.length p.gc, .int .u64 (p.hor : Int), .int .i64 p.whom, .int .u32 (p.seq : Int), .int .u64 (p.mem : Int), .int .u64 (p.pe : Int), .int .i64 p.pr, .int .u64 (p.epoch : Int), .slice p.xa p.xs.length p.xc] := by rw [pktA, hkd]
  have hmz : pktA zeroP = #[.int .i64 0, .int .i64 0, .int .i64 0, .int .u64 0, .int .i64 0, .int .i64 0, .int .u32 0, .int .u64 0, .int .i64 0, .slice none 0 0, .string ⟨#[]⟩, .int .u64 0, .int .u32 0, .slice none 0 0, .int .u64 0, .int .i64 0, .int .u32 0, .int .u64 0, .int .u64 0, .int .i64 0, .int .u64 0, .slice none 0 0] := rfl
  have hr := range_of_block hs.a
  rw [← hN] at hr
  have c0 : W.cell? ⟨N, 0, none⟩ = some (.int .i64 9) := by rw [← hkd]; exact hr 0 _ rfl
  have c1 : W.cell? ⟨N, 1, none⟩ = some (.int .i64 p.frm) := hr 1 _ rfl
  have c2 : W.cell? ⟨N, 2, none⟩ = some (.int .i64 p.dst) := hr 2 _ rfl
  rw [hma, hmz] at hW
  rw [hmz] at hW4 hza
  rw [hma]
  rw [hkd] at hbld
  have HBD := Lib.hid (And.intro hbld hza)
  have HQ := Lib.hid hkd
  have HST := Lib.hid hst
  clear hp hmz hma hs hst hsz hr hZ hbld hza hkd
  go_enter Try.func16, Try.ntmps16
  go_upto_region 1 with (fail)
  rw [← hW, ← hN]
  clear hW hN
  refine wp_region_lit ?_
  iterate 6
    refine wpList_step (fun K hK => ?_)
    go_simp
    refine hK _ _ ?_
    clear hK K
    (try simp only [Act.put, List.setIfInBounds_toArray, List.set_cons_zero, List.set_cons_succ])
  refine wpList_buildZ rfl 35 #[(0, .tmp 5), (1, .tmp 7), (2, .tmp 9)] rfl Z (by simp only [List.map_toArray, List.map_cons, List.map_nil]; exact HBD.out.1) ?_
  (try simp only [Act.put, List.setIfInBounds_toArray, List.set_cons_zero, List.set_cons_succ])
  iterate 1
    refine wpList_step (fun K hK => ?_)
    go_simp
    refine hK _ _ ?_
    clear hK K
    (try simp only [Act.put, List.setIfInBounds_toArray, List.set_cons_zero, List.set_cons_succ])
  refine wpList_store_row rfl 35 (.tmp 3) (.tmp 10) rfl (N + 1 + 1) Z (by rw [← HSZ.out]; rfl) rfl 35 _ HBD.out.2 (by rw [HZ.out.1]; kernel_rfl) (by rw [HZ.out.1]; rfl) HZ.out.2 ?_
  (try simp only [Act.put, List.setIfInBounds_toArray, List.set_cons_zero, List.set_cons_succ])
  refine wpList_nil ?_
  rw [← hW4, HSZ.out]
  clear hW4 c0 c1 c2 HBD HZ
  go_upto_region 2 with (fail)
  have c0 : W4.cell? ⟨N, 0, none⟩ = some (.int .i64 9) := by rw [← HQ.out]; exact (HST.out.src HN.out) 0 _ rfl
  have c3 : W4.cell? ⟨N, 3, none⟩ = some (.int .u64 (p.ce : Int)) := (HST.out.src HN.out) 3 _ rfl
  have c4 : W4.cell? ⟨N, 4, none⟩ = some (.int .i64 p.cr) := (HST.out.src HN.out) 4 _ rfl
  have d3 : W4.cell? ⟨N + 1 + 1, 3, none⟩ = some (.int .u64 0) := (HST.out.dst HN.out 3).1
  have d4 : W4.cell? ⟨N + 1 + 1, 4, none⟩ = some (.int .i64 0) := (HST.out.dst HN.out 4).1
  have f3 : W4.frozen? ⟨N + 1 + 1, 3, none⟩ = false := (HST.out.dst HN.out 3).2
  have f4 : W4.frozen? ⟨N + 1 + 1, 4, none⟩ = false := (HST.out.dst HN.out 4).2
  go_upto_region 4 with (fail)
  obtain ⟨W5, hW5⟩ : ∃ W5, W5 = (W4.setCell ⟨N + 1 + 1, 3, none⟩ (.int .u64 (p.ce : Int))).setCell ⟨N + 1 + 1, 4, none⟩ (.int .i64 p.cr) := ⟨_, rfl⟩
  rw [← hW5]
  have hst : ClnSt w W5 p (selC p) := by
    rw [hW5, HN.out]
    exact (HST.out.set (r := { selZ p with ce := p.ce }) 3 _ rfl).set 4 _ rfl
  clear hW5 c0 c3 c4 d3 d4 f3 f4 HST
  have hr := hst.src HN.out
  have c0 : W5.cell? ⟨N, 0, none⟩ = some (.int .i64 9) := by rw [← HQ.out]; exact hr 0 _ rfl
  have hS : ∀ (W' : World) (q : Pkt), ClnSt w W' p q → W'.cell? ⟨N, 15, none⟩ = some (.int .i64 p.whom) ∧ W'.cell? ⟨N, 5, none⟩ = some (.int .i64 p.m.frm) ∧ W'.cell? ⟨N, 6, none⟩ = some (.int .u32 (p.m.seq : Int)) ∧ W'.cell? ⟨N, 7, none⟩ = some (.int .u64 (p.m.stamp : Int)) ∧ W'.cell? ⟨N, 8, none⟩ = some (.int .i64 p.m.service) ∧ W'.cell? ⟨N, 9, none⟩ = some (.slice p.m.da p.m.ds.length p.m.dc) ∧ W'.cell? ⟨N, 10, none⟩ = some (.string p.m.pay) := fun W' q h => ⟨(h.src HN.out) 15 _ rfl, (h.src HN.out) 5 _ rfl, (h.src HN.out) 6 _ rfl, (h.src HN.out) 7 _ rfl, (h.src HN.out) 8 _ rfl, (h.src HN.out) 9 _ rfl, (h.src HN.out) 10 _ rfl⟩
  have HS := Lib.hid hS
  have HST := Lib.hid hst
  clear hst hr hS
  go_upto_region 21 with (fail)
  refine wp_region_mask (fun w' => w'.cell? ⟨N, 15, none⟩ = some (.int .i64 p.whom) ∧ w'.cell? ⟨N, 5, none⟩ = some (.int .i64 p.m.frm) ∧ w'.cell? ⟨N, 6, none⟩ = some (.int .u32 (p.m.seq : Int)) ∧ w'.cell? ⟨N, 7, none⟩ = some (.int .u64 (p.m.stamp : Int)) ∧ w'.cell? ⟨N, 8, none⟩ = some (.int .i64 p.m.service) ∧ w'.cell? ⟨N, 9, none⟩ = some (.slice p.m.da p.m.ds.length p.m.dc) ∧ w'.cell? ⟨N, 10, none⟩ = some (.string p.m.pay)) 7 3 [true, true, true, true, true, false, false, false] #[true, true, true, true, true, false, false, false] (by kernel_rfl) (by kernel_rfl) (by kernel_rfl) (HS.out _ _ HST.out.drew) ?_
  have hs0 := HST.out.drew
  generalize W5.drew = V0 at *
  have HS0 := Lib.hid hs0
  clear hs0
  iterate 5
    refine wpMask_take _ (Or.inl ⟨by rfl, fun w' hS => by (try dsimp only at hS); go_simp; try with_reducible rfl⟩) ?_
    simp only [Act.put, List.setIfInBounds_toArray, List.set_cons_zero, List.set_cons_succ]
  refine wpMask_skip (wpMask_skip (wpMask_skip (wpMask_nil ?_)))
  have d15 : V0.cell? ⟨N + 1 + 1, 15, none⟩ = some (.int .i64 0) := (HS0.out.dst HN.out 15).1
  have f15 : V0.frozen? ⟨N + 1 + 1, 15, none⟩ = false := (HS0.out.dst HN.out 15).2
  obtain ⟨V1, hV⟩ : ∃ V1, V1 = (V0.setCell ⟨N + 1 + 1, 15, none⟩ (.int .i64 p.whom)) := ⟨_, rfl⟩
  have HS1 := Lib.hid (show ClnSt w V1 p ({ selC p with whom := p.whom }) from by rw [hV, HN.out]; exact HS0.out.set 15 _ rfl)
  refine wpAnyS_ready (rs := [5]) (by kernel_rfl) (by simp) ?_
  refine AllReadyS.cons rfl (fun K hK => ?_) AllReadyS.nil
  go_simp
  rw [← hV]
  refine hK.out _ _ (fun _ => HS.out _ _ HS1.out) ?_
  clear hK K hV d15 f15
  simp only [Act.put, List.setIfInBounds_toArray, List.set_cons_zero, List.set_cons_succ]
  refine wpAnyS_ready (rs := [6]) (by kernel_rfl) (by simp) ?_
  refine AllReadyS.cons rfl (fun K hK => ?_) AllReadyS.nil
  go_simp
  refine hK.out _ _ (fun _ => HS.out _ _ HS1.out) ?_
  clear hK K
  simp only [Act.put, List.setIfInBounds_toArray, List.set_cons_zero, List.set_cons_succ]
  have d5 : V1.cell? ⟨N + 1 + 1, 5, none⟩ = some (.int .i64 0) := (HS1.out.dst HN.out 5).1
  have f5 : V1.frozen? ⟨N + 1 + 1, 5, none⟩ = false := (HS1.out.dst HN.out 5).2
  have d6 : V1.cell? ⟨N + 1 + 1, 6, none⟩ = some (.int .u32 0) := (HS1.out.dst HN.out 6).1
  have f6 : V1.frozen? ⟨N + 1 + 1, 6, none⟩ = false := (HS1.out.dst HN.out 6).2
  have d7 : V1.cell? ⟨N + 1 + 1, 7, none⟩ = some (.int .u64 0) := (HS1.out.dst HN.out 7).1
  have f7 : V1.frozen? ⟨N + 1 + 1, 7, none⟩ = false := (HS1.out.dst HN.out 7).2
  have d8 : V1.cell? ⟨N + 1 + 1, 8, none⟩ = some (.int .i64 0) := (HS1.out.dst HN.out 8).1
  have f8 : V1.frozen? ⟨N + 1 + 1, 8, none⟩ = false := (HS1.out.dst HN.out 8).2
  have d9 : V1.cell? ⟨N + 1 + 1, 9, none⟩ = some (.slice none 0 0) := (HS1.out.dst HN.out 9).1
  have f9 : V1.frozen? ⟨N + 1 + 1, 9, none⟩ = false := (HS1.out.dst HN.out 9).2
  have d10 : V1.cell? ⟨N + 1 + 1, 10, none⟩ = some (.string ⟨#[]⟩) := (HS1.out.dst HN.out 10).1
  have f10 : V1.frozen? ⟨N + 1 + 1, 10, none⟩ = false := (HS1.out.dst HN.out 10).2
  obtain ⟨V2, hV⟩ : ∃ V2, V2 = ((((((V1.setCell ⟨N + 1 + 1, 5, none⟩ (.int .i64 p.m.frm)).setCell ⟨N + 1 + 1, 6, none⟩ (.int .u32 (p.m.seq : Int))).setCell ⟨N + 1 + 1, 7, none⟩ (.int .u64 (p.m.stamp : Int))).setCell ⟨N + 1 + 1, 8, none⟩ (.int .i64 p.m.service)).setCell ⟨N + 1 + 1, 9, none⟩ (.slice p.m.da p.m.ds.length p.m.dc)).setCell ⟨N + 1 + 1, 10, none⟩ (.string p.m.pay)) := ⟨_, rfl⟩
  have HS2 := Lib.hid (show ClnSt w V2 p ({ { selC p with whom := p.whom } with m := p.m }) from by
    rw [hV, HN.out]
    exact ((((((HS1.out).set (r := { { selC p with whom := p.whom } with m := { ({ selC p with whom := p.whom } : Pkt).m with frm := p.m.frm } }) 5 _ rfl).set (r := { { selC p with whom := p.whom } with m := { ({ selC p with whom := p.whom } : Pkt).m with frm := p.m.frm, seq := p.m.seq } }) 6 _ rfl).set (r := { { selC p with whom := p.whom } with m := { ({ selC p with whom := p.whom } : Pkt).m with frm := p.m.frm, seq := p.m.seq, stamp := p.m.stamp } }) 7 _ rfl).set (r := { { selC p with whom := p.whom } with m := { ({ selC p with whom := p.whom } : Pkt).m with frm := p.m.frm, seq := p.m.seq, stamp := p.m.stamp, service := p.m.service } }) 8 _ rfl).set (r := { { selC p with whom := p.whom } with m := { ({ selC p with whom := p.whom } : Pkt).m with frm := p.m.frm, seq := p.m.seq, stamp := p.m.stamp, service := p.m.service, ds := p.m.ds, da := p.m.da, dc := p.m.dc } }) 9 _ rfl).set (r := { { selC p with whom := p.whom } with m := p.m }) 10 _ rfl)
  refine wpAnyS_ready (rs := [7]) (by kernel_rfl) (by simp) ?_
  refine AllReadyS.cons rfl (fun K hK => ?_) AllReadyS.nil
  go_simp
  rw [← hV]
  refine hK.out _ _ (fun _ => HS.out _ _ HS2.out) ?_
  clear hK K hV d5 f5 d6 f6 d7 f7 d8 f8 d9 f9 d10 f10
  simp only [Act.put, List.setIfInBounds_toArray, List.set_cons_zero, List.set_cons_succ]
  refine wpAnyS_done (by kernel_rfl) ?_ _
  have c15 : V2.cell? ⟨N, 15, none⟩ = some (.int .i64 p.whom) := (HS2.out.src HN.out) 15 _ rfl
  have d5 : V2.cell? ⟨N + 1 + 1, 5, none⟩ = some (.int .i64 p.m.frm) := (HS2.out.dst HN.out 5).1
  have f5 : V2.frozen? ⟨N + 1 + 1, 5, none⟩ = false := (HS2.out.dst HN.out 5).2
  go_upto_region 23 with (fail)
  obtain ⟨V3, hV⟩ : ∃ V3, V3 = V2.setCell ⟨N + 1 + 1, 5, none⟩ (.int .i64 p.whom) := ⟨_, rfl⟩
  rw [← hV]
  have HS3 := Lib.hid (show ClnSt w V3 p ({ selC p with whom := p.whom, m := { p.m with frm := p.whom } }) from by rw [hV, HN.out]; exact HS2.out.set 5 _ rfl)
  clear hV c15 d5 f5
  clear c0
  have hq : { selC p with whom := p.whom, m := { p.m with frm := p.whom } } = selP p := by unfold selP; have := HQ.out; simp [this]
  have hs9 : ClnSt w V3 p (selP p) := by rw [← hq]; exact HS3.out
  have hA := (show ClnSt w V3 p (selP p) from hs9).q
  have HO := Lib.hid (own_any (selP p) V3 ((selP_ok HP.out).below hs9.st.bel))
  have H9 := Lib.hid hs9
  clear hs9 hq
  generalize hAA : pktA (selP p) = A at hA HO
  have hA1 : A.size = 22 := by rw [← hAA]; rfl
  rw [show w.heap.size + 2 = N + 1 + 1 from by rw [HN.out]] at hA
  have HA := Lib.hid (And.intro hA (And.intro hA1 hAA))
  clear hA hA1 hAA
  go_wp2_with (refine wpList_load_row rfl 35 (.tmp 3) rfl (N + 1 + 1) rfl 35 A (0, 0) _ HA.out.1 Try.underlying35 rfl (by rw [HA.out.2.1]; kernel_rfl) ?_)
  refine HO.out.mono ?_
  rintro e w7 ⟨⟨q, rfl, hc, ho⟩, hb⟩
  have HE := Lib.hid (clnEnd H9.out hc ho hb)
  have hz : w7.heap[N + 1]? = some (.cells (pktA zeroP) 35 (0, 0)) := by rw [HN.out]; exact (H9.out.st.below hb).b
  generalize hBB : pktA q = B at HE
  have HB := Lib.hid (And.intro hz (And.intro (show B.size = 22 by rw [← hBB]; rfl) (show B.all (·.oneCell') = true by rw [← hBB]; exact oneCell_pktA q)))
  clear hz hBB hc ho hb HO HA
  go_wp2_with (refine wpList_store_row rfl 35 (.tmp 2) (.tmp 98) rfl (N + 1) B rfl rfl 35 _ HB.out.1 (by rw [HB.out.2.1]; kernel_rfl) (by rw [HB.out.2.1]; rfl) HB.out.2.2 ?_)
  rw [← HN.out] at HE
  refine bodyPost_ret (results_cell_row Try.results16 _ _ (N + 1) 35 B (0, 0) _ rfl (setRow_heap _ _ _ _ _ _ HB.out.1) Try.underlying35 rfl (by rw [HB.out.2.1]; kernel_rfl)) rfl ?_
  exact HE.out
set_option maxRecDepth 100000 in
set_option maxHeartbeats 8000000 in
theorem Cln10_any (p : Pkt) (w : World) (hp : PktOk w p) (hkd : p.kind = 10) : Calls Try.prog 16 #[.agg (pktA p)] w fun e w' => OwnEnd (selP p) w e w' := by
  obtain ⟨N, hN⟩ : ∃ N, N = w.heap.size := ⟨_, rfl⟩
  obtain ⟨W, hW⟩ : ∃ W, W = (w.alloc (.cells (pktA p) 35)).alloc (.cells (pktA zeroP) 35) := ⟨_, rfl⟩
  obtain ⟨Z, hZ⟩ : ∃ Z, Z = pktA (selZ p) := ⟨_, rfl⟩
  have hbld := bldP p
  rw [← hZ] at hbld
  have hs : OwnSt w W p := by rw [hW]; exact two_st w p
  have hsz : W.heap.size = N + 1 + 1 := by rw [hW, hN]; simp
  have hza := heap_alloc_new W (.cells (pktA zeroP) 35)
  rw [hsz] at hza
  obtain ⟨W4, hW4⟩ : ∃ W4, W4 = (W.alloc (.cells (pktA zeroP) 35)).setRow (N + 1 + 1) Z := ⟨_, rfl⟩
  have hst : ClnSt w W4 p (selZ p) := by
    rw [hW4]
    refine ⟨(hs.below (ba (br W) _)).kept (kept_setRow _ _ _) (fun k hk => by rw [hk, hN]; omega), ?_⟩
    rw [← hN, ← hZ]
    exact setRow_heap _ _ _ _ _ _ hza
  have HP := Lib.hid hp
  have HN := Lib.hid hN
  have HSZ := Lib.hid hsz
  have HZ := Lib.hid (And.intro (show Z.size = 22 by rw [hZ]; rfl) (show Z.all (·.oneCell') = true by rw [hZ]; exact oneCell_pktA _))
  have hma : pktA p = #[.int .i64 10, .int .i64 p.frm, .int .i64 p.dst, .int .u64 (p.ce : Int), .int .i64 p.cr, .int .i64 p.m.frm, .int .u32 (p.m.seq : Int), .int .u64 (p.m.stamp : Int), .int .i64 p.m.service, .slice p.m.da p.m.ds.length p.m.dc, .string p.m.pay, .int .u64 (p.stamp : Int), .int .u32 (p.sent : Int), .slice p.ga p.got.length p.gc, .int .u64 (p.hor : Int), .int .i64 p.whom, .int .u32 (p.seq : Int), .int .u64 (p.mem : Int), .int .u64 (p.pe : Int), .int .i64 p.pr, .int .u64 (p.epoch : Int), .slice p.xa p.xs.length p.xc] := by rw [pktA, hkd]
  have hmz : pktA zeroP = #[.int .i64 0, .int .i64 0, .int .i64 0, .int .u64 0, .int .i64 0, .int .i64 0, .int .u32 0, .int .u64 0, .int .i64 0, .slice none 0 0, .string ⟨#[]⟩, .int .u64 0, .int .u32 0, .slice none 0 0, .int .u64 0, .int .i64 0, .int .u32 0, .int .u64 0, .int .u64 0, .int .i64 0, .int .u64 0, .slice none 0 0] := rfl
  have hr := range_of_block hs.a
  rw [← hN] at hr
  have c0 : W.cell? ⟨N, 0, none⟩ = some (.int .i64 10) := by rw [← hkd]; exact hr 0 _ rfl
  have c1 : W.cell? ⟨N, 1, none⟩ = some (.int .i64 p.frm) := hr 1 _ rfl
  have c2 : W.cell? ⟨N, 2, none⟩ = some (.int .i64 p.dst) := hr 2 _ rfl
  rw [hma, hmz] at hW
  rw [hmz] at hW4 hza
  rw [hma]
  rw [hkd] at hbld
  have HBD := Lib.hid (And.intro hbld hza)
  have HQ := Lib.hid hkd
  have HST := Lib.hid hst
  clear hp hmz hma hs hst hsz hr hZ hbld hza hkd
  go_enter Try.func16, Try.ntmps16
  go_upto_region 1 with (fail)
  rw [← hW, ← hN]
  clear hW hN
  refine wp_region_lit ?_
  iterate 6
    refine wpList_step (fun K hK => ?_)
    go_simp
    refine hK _ _ ?_
    clear hK K
    (try simp only [Act.put, List.setIfInBounds_toArray, List.set_cons_zero, List.set_cons_succ])
  refine wpList_buildZ rfl 35 #[(0, .tmp 5), (1, .tmp 7), (2, .tmp 9)] rfl Z (by simp only [List.map_toArray, List.map_cons, List.map_nil]; exact HBD.out.1) ?_
  (try simp only [Act.put, List.setIfInBounds_toArray, List.set_cons_zero, List.set_cons_succ])
  iterate 1
    refine wpList_step (fun K hK => ?_)
    go_simp
    refine hK _ _ ?_
    clear hK K
    (try simp only [Act.put, List.setIfInBounds_toArray, List.set_cons_zero, List.set_cons_succ])
  refine wpList_store_row rfl 35 (.tmp 3) (.tmp 10) rfl (N + 1 + 1) Z (by rw [← HSZ.out]; rfl) rfl 35 _ HBD.out.2 (by rw [HZ.out.1]; kernel_rfl) (by rw [HZ.out.1]; rfl) HZ.out.2 ?_
  (try simp only [Act.put, List.setIfInBounds_toArray, List.set_cons_zero, List.set_cons_succ])
  refine wpList_nil ?_
  rw [← hW4, HSZ.out]
  clear hW4 c0 c1 c2 HBD HZ
  go_upto_region 2 with (fail)
  have c0 : W4.cell? ⟨N, 0, none⟩ = some (.int .i64 10) := by rw [← HQ.out]; exact (HST.out.src HN.out) 0 _ rfl
  have c3 : W4.cell? ⟨N, 3, none⟩ = some (.int .u64 (p.ce : Int)) := (HST.out.src HN.out) 3 _ rfl
  have c4 : W4.cell? ⟨N, 4, none⟩ = some (.int .i64 p.cr) := (HST.out.src HN.out) 4 _ rfl
  have d3 : W4.cell? ⟨N + 1 + 1, 3, none⟩ = some (.int .u64 0) := (HST.out.dst HN.out 3).1
  have d4 : W4.cell? ⟨N + 1 + 1, 4, none⟩ = some (.int .i64 0) := (HST.out.dst HN.out 4).1
  have f3 : W4.frozen? ⟨N + 1 + 1, 3, none⟩ = false := (HST.out.dst HN.out 3).2
  have f4 : W4.frozen? ⟨N + 1 + 1, 4, none⟩ = false := (HST.out.dst HN.out 4).2
  go_upto_region 4 with (fail)
  obtain ⟨W5, hW5⟩ : ∃ W5, W5 = (W4.setCell ⟨N + 1 + 1, 3, none⟩ (.int .u64 (p.ce : Int))).setCell ⟨N + 1 + 1, 4, none⟩ (.int .i64 p.cr) := ⟨_, rfl⟩
  rw [← hW5]
  have hst : ClnSt w W5 p (selC p) := by
    rw [hW5, HN.out]
    exact (HST.out.set (r := { selZ p with ce := p.ce }) 3 _ rfl).set 4 _ rfl
  clear hW5 c0 c3 c4 d3 d4 f3 f4 HST
  have hr := hst.src HN.out
  have c0 : W5.cell? ⟨N, 0, none⟩ = some (.int .i64 10) := by rw [← HQ.out]; exact hr 0 _ rfl
  have HST := Lib.hid hst
  clear hst hr
  go_upto_region 23 with (fail)
  clear c0
  have hq : selC p = selP p := by unfold selP; have := HQ.out; simp [this]
  have hs9 : ClnSt w W5 p (selP p) := by rw [← hq]; exact HST.out
  have hA := (show ClnSt w W5 p (selP p) from hs9).q
  have HO := Lib.hid (own_any (selP p) W5 ((selP_ok HP.out).below hs9.st.bel))
  have H9 := Lib.hid hs9
  clear hs9 hq
  generalize hAA : pktA (selP p) = A at hA HO
  have hA1 : A.size = 22 := by rw [← hAA]; rfl
  rw [show w.heap.size + 2 = N + 1 + 1 from by rw [HN.out]] at hA
  have HA := Lib.hid (And.intro hA (And.intro hA1 hAA))
  clear hA hA1 hAA
  go_wp2_with (refine wpList_load_row rfl 35 (.tmp 3) rfl (N + 1 + 1) rfl 35 A (0, 0) _ HA.out.1 Try.underlying35 rfl (by rw [HA.out.2.1]; kernel_rfl) ?_)
  refine HO.out.mono ?_
  rintro e w7 ⟨⟨q, rfl, hc, ho⟩, hb⟩
  have HE := Lib.hid (clnEnd H9.out hc ho hb)
  have hz : w7.heap[N + 1]? = some (.cells (pktA zeroP) 35 (0, 0)) := by rw [HN.out]; exact (H9.out.st.below hb).b
  generalize hBB : pktA q = B at HE
  have HB := Lib.hid (And.intro hz (And.intro (show B.size = 22 by rw [← hBB]; rfl) (show B.all (·.oneCell') = true by rw [← hBB]; exact oneCell_pktA q)))
  clear hz hBB hc ho hb HO HA
  go_wp2_with (refine wpList_store_row rfl 35 (.tmp 2) (.tmp 98) rfl (N + 1) B rfl rfl 35 _ HB.out.1 (by rw [HB.out.2.1]; kernel_rfl) (by rw [HB.out.2.1]; rfl) HB.out.2.2 ?_)
  rw [← HN.out] at HE
  refine bodyPost_ret (results_cell_row Try.results16 _ _ (N + 1) 35 B (0, 0) _ rfl (setRow_heap _ _ _ _ _ _ HB.out.1) Try.underlying35 rfl (by rw [HB.out.2.1]; kernel_rfl)) rfl ?_
  exact HE.out
set_option maxRecDepth 100000 in
set_option maxHeartbeats 8000000 in
theorem Cln11_any (p : Pkt) (w : World) (hp : PktOk w p) (hkd : p.kind = 11) : Calls Try.prog 16 #[.agg (pktA p)] w fun e w' => OwnEnd (selP p) w e w' := by
  obtain ⟨N, hN⟩ : ∃ N, N = w.heap.size := ⟨_, rfl⟩
  obtain ⟨W, hW⟩ : ∃ W, W = (w.alloc (.cells (pktA p) 35)).alloc (.cells (pktA zeroP) 35) := ⟨_, rfl⟩
  obtain ⟨Z, hZ⟩ : ∃ Z, Z = pktA (selZ p) := ⟨_, rfl⟩
  have hbld := bldP p
  rw [← hZ] at hbld
  have hs : OwnSt w W p := by rw [hW]; exact two_st w p
  have hsz : W.heap.size = N + 1 + 1 := by rw [hW, hN]; simp
  have hza := heap_alloc_new W (.cells (pktA zeroP) 35)
  rw [hsz] at hza
  obtain ⟨W4, hW4⟩ : ∃ W4, W4 = (W.alloc (.cells (pktA zeroP) 35)).setRow (N + 1 + 1) Z := ⟨_, rfl⟩
  have hst : ClnSt w W4 p (selZ p) := by
    rw [hW4]
    refine ⟨(hs.below (ba (br W) _)).kept (kept_setRow _ _ _) (fun k hk => by rw [hk, hN]; omega), ?_⟩
    rw [← hN, ← hZ]
    exact setRow_heap _ _ _ _ _ _ hza
  have HP := Lib.hid hp
  have HN := Lib.hid hN
  have HSZ := Lib.hid hsz
  have HZ := Lib.hid (And.intro (show Z.size = 22 by rw [hZ]; rfl) (show Z.all (·.oneCell') = true by rw [hZ]; exact oneCell_pktA _))
  have hma : pktA p = #[.int .i64 11, .int .i64 p.frm, .int .i64 p.dst, .int .u64 (p.ce : Int), .int .i64 p.cr, .int .i64 p.m.frm, .int .u32 (p.m.seq : Int), .int .u64 (p.m.stamp : Int), .int .i64 p.m.service, .slice p.m.da p.m.ds.length p.m.dc, .string p.m.pay, .int .u64 (p.stamp : Int), .int .u32 (p.sent : Int), .slice p.ga p.got.length p.gc, .int .u64 (p.hor : Int), .int .i64 p.whom, .int .u32 (p.seq : Int), .int .u64 (p.mem : Int), .int .u64 (p.pe : Int), .int .i64 p.pr, .int .u64 (p.epoch : Int), .slice p.xa p.xs.length p.xc] := by rw [pktA, hkd]
  have hmz : pktA zeroP = #[.int .i64 0, .int .i64 0, .int .i64 0, .int .u64 0, .int .i64 0, .int .i64 0, .int .u32 0, .int .u64 0, .int .i64 0, .slice none 0 0, .string ⟨#[]⟩, .int .u64 0, .int .u32 0, .slice none 0 0, .int .u64 0, .int .i64 0, .int .u32 0, .int .u64 0, .int .u64 0, .int .i64 0, .int .u64 0, .slice none 0 0] := rfl
  have hr := range_of_block hs.a
  rw [← hN] at hr
  have c0 : W.cell? ⟨N, 0, none⟩ = some (.int .i64 11) := by rw [← hkd]; exact hr 0 _ rfl
  have c1 : W.cell? ⟨N, 1, none⟩ = some (.int .i64 p.frm) := hr 1 _ rfl
  have c2 : W.cell? ⟨N, 2, none⟩ = some (.int .i64 p.dst) := hr 2 _ rfl
  rw [hma, hmz] at hW
  rw [hmz] at hW4 hza
  rw [hma]
  rw [hkd] at hbld
  have HBD := Lib.hid (And.intro hbld hza)
  have HQ := Lib.hid hkd
  have HST := Lib.hid hst
  clear hp hmz hma hs hst hsz hr hZ hbld hza hkd
  go_enter Try.func16, Try.ntmps16
  go_upto_region 1 with (fail)
  rw [← hW, ← hN]
  clear hW hN
  refine wp_region_lit ?_
  iterate 6
    refine wpList_step (fun K hK => ?_)
    go_simp
    refine hK _ _ ?_
    clear hK K
    (try simp only [Act.put, List.setIfInBounds_toArray, List.set_cons_zero, List.set_cons_succ])
  refine wpList_buildZ rfl 35 #[(0, .tmp 5), (1, .tmp 7), (2, .tmp 9)] rfl Z (by simp only [List.map_toArray, List.map_cons, List.map_nil]; exact HBD.out.1) ?_
  (try simp only [Act.put, List.setIfInBounds_toArray, List.set_cons_zero, List.set_cons_succ])
  iterate 1
    refine wpList_step (fun K hK => ?_)
    go_simp
    refine hK _ _ ?_
    clear hK K
    (try simp only [Act.put, List.setIfInBounds_toArray, List.set_cons_zero, List.set_cons_succ])
  refine wpList_store_row rfl 35 (.tmp 3) (.tmp 10) rfl (N + 1 + 1) Z (by rw [← HSZ.out]; rfl) rfl 35 _ HBD.out.2 (by rw [HZ.out.1]; kernel_rfl) (by rw [HZ.out.1]; rfl) HZ.out.2 ?_
  (try simp only [Act.put, List.setIfInBounds_toArray, List.set_cons_zero, List.set_cons_succ])
  refine wpList_nil ?_
  rw [← hW4, HSZ.out]
  clear hW4 c0 c1 c2 HBD HZ
  go_upto_region 2 with (fail)
  have c0 : W4.cell? ⟨N, 0, none⟩ = some (.int .i64 11) := by rw [← HQ.out]; exact (HST.out.src HN.out) 0 _ rfl
  have c3 : W4.cell? ⟨N, 3, none⟩ = some (.int .u64 (p.ce : Int)) := (HST.out.src HN.out) 3 _ rfl
  have c4 : W4.cell? ⟨N, 4, none⟩ = some (.int .i64 p.cr) := (HST.out.src HN.out) 4 _ rfl
  have d3 : W4.cell? ⟨N + 1 + 1, 3, none⟩ = some (.int .u64 0) := (HST.out.dst HN.out 3).1
  have d4 : W4.cell? ⟨N + 1 + 1, 4, none⟩ = some (.int .i64 0) := (HST.out.dst HN.out 4).1
  have f3 : W4.frozen? ⟨N + 1 + 1, 3, none⟩ = false := (HST.out.dst HN.out 3).2
  have f4 : W4.frozen? ⟨N + 1 + 1, 4, none⟩ = false := (HST.out.dst HN.out 4).2
  go_upto_region 4 with (fail)
  obtain ⟨W5, hW5⟩ : ∃ W5, W5 = (W4.setCell ⟨N + 1 + 1, 3, none⟩ (.int .u64 (p.ce : Int))).setCell ⟨N + 1 + 1, 4, none⟩ (.int .i64 p.cr) := ⟨_, rfl⟩
  rw [← hW5]
  have hst : ClnSt w W5 p (selC p) := by
    rw [hW5, HN.out]
    exact (HST.out.set (r := { selZ p with ce := p.ce }) 3 _ rfl).set 4 _ rfl
  clear hW5 c0 c3 c4 d3 d4 f3 f4 HST
  have hr := hst.src HN.out
  have c0 : W5.cell? ⟨N, 0, none⟩ = some (.int .i64 11) := by rw [← HQ.out]; exact hr 0 _ rfl
  have HST := Lib.hid hst
  clear hst hr
  go_upto_region 23 with (fail)
  clear c0
  have hq : selC p = selP p := by unfold selP; have := HQ.out; simp [this]
  have hs9 : ClnSt w W5 p (selP p) := by rw [← hq]; exact HST.out
  have hA := (show ClnSt w W5 p (selP p) from hs9).q
  have HO := Lib.hid (own_any (selP p) W5 ((selP_ok HP.out).below hs9.st.bel))
  have H9 := Lib.hid hs9
  clear hs9 hq
  generalize hAA : pktA (selP p) = A at hA HO
  have hA1 : A.size = 22 := by rw [← hAA]; rfl
  rw [show w.heap.size + 2 = N + 1 + 1 from by rw [HN.out]] at hA
  have HA := Lib.hid (And.intro hA (And.intro hA1 hAA))
  clear hA hA1 hAA
  go_wp2_with (refine wpList_load_row rfl 35 (.tmp 3) rfl (N + 1 + 1) rfl 35 A (0, 0) _ HA.out.1 Try.underlying35 rfl (by rw [HA.out.2.1]; kernel_rfl) ?_)
  refine HO.out.mono ?_
  rintro e w7 ⟨⟨q, rfl, hc, ho⟩, hb⟩
  have HE := Lib.hid (clnEnd H9.out hc ho hb)
  have hz : w7.heap[N + 1]? = some (.cells (pktA zeroP) 35 (0, 0)) := by rw [HN.out]; exact (H9.out.st.below hb).b
  generalize hBB : pktA q = B at HE
  have HB := Lib.hid (And.intro hz (And.intro (show B.size = 22 by rw [← hBB]; rfl) (show B.all (·.oneCell') = true by rw [← hBB]; exact oneCell_pktA q)))
  clear hz hBB hc ho hb HO HA
  go_wp2_with (refine wpList_store_row rfl 35 (.tmp 2) (.tmp 98) rfl (N + 1) B rfl rfl 35 _ HB.out.1 (by rw [HB.out.2.1]; kernel_rfl) (by rw [HB.out.2.1]; rfl) HB.out.2.2 ?_)
  rw [← HN.out] at HE
  refine bodyPost_ret (results_cell_row Try.results16 _ _ (N + 1) 35 B (0, 0) _ rfl (setRow_heap _ _ _ _ _ _ HB.out.1) Try.underlying35 rfl (by rw [HB.out.2.1]; kernel_rfl)) rfl ?_
  exact HE.out
set_option maxRecDepth 100000 in
set_option maxHeartbeats 8000000 in
theorem ClnO_any (p : Pkt) (w : World) (hp : PktOk w p) (hkd : p.kind < 1 ∨ 11 < p.kind) : Calls Try.prog 16 #[.agg (pktA p)] w fun e w' => OwnEnd (selP p) w e w' := by
  obtain ⟨N, hN⟩ : ∃ N, N = w.heap.size := ⟨_, rfl⟩
  obtain ⟨W, hW⟩ : ∃ W, W = (w.alloc (.cells (pktA p) 35)).alloc (.cells (pktA zeroP) 35) := ⟨_, rfl⟩
  obtain ⟨Z, hZ⟩ : ∃ Z, Z = pktA (selZ p) := ⟨_, rfl⟩
  have hbld := bldP p
  rw [← hZ] at hbld
  have hs : OwnSt w W p := by rw [hW]; exact two_st w p
  have hsz : W.heap.size = N + 1 + 1 := by rw [hW, hN]; simp
  have hza := heap_alloc_new W (.cells (pktA zeroP) 35)
  rw [hsz] at hza
  obtain ⟨W4, hW4⟩ : ∃ W4, W4 = (W.alloc (.cells (pktA zeroP) 35)).setRow (N + 1 + 1) Z := ⟨_, rfl⟩
  have hst : ClnSt w W4 p (selZ p) := by
    rw [hW4]
    refine ⟨(hs.below (ba (br W) _)).kept (kept_setRow _ _ _) (fun k hk => by rw [hk, hN]; omega), ?_⟩
    rw [← hN, ← hZ]
    exact setRow_heap _ _ _ _ _ _ hza
  have HP := Lib.hid hp
  have HN := Lib.hid hN
  have HSZ := Lib.hid hsz
  have HZ := Lib.hid (And.intro (show Z.size = 22 by rw [hZ]; rfl) (show Z.all (·.oneCell') = true by rw [hZ]; exact oneCell_pktA _))
  have hma : pktA p = #[.int .i64 p.kind, .int .i64 p.frm, .int .i64 p.dst, .int .u64 (p.ce : Int), .int .i64 p.cr, .int .i64 p.m.frm, .int .u32 (p.m.seq : Int), .int .u64 (p.m.stamp : Int), .int .i64 p.m.service, .slice p.m.da p.m.ds.length p.m.dc, .string p.m.pay, .int .u64 (p.stamp : Int), .int .u32 (p.sent : Int), .slice p.ga p.got.length p.gc, .int .u64 (p.hor : Int), .int .i64 p.whom, .int .u32 (p.seq : Int), .int .u64 (p.mem : Int), .int .u64 (p.pe : Int), .int .i64 p.pr, .int .u64 (p.epoch : Int), .slice p.xa p.xs.length p.xc] := by rfl
  have hmz : pktA zeroP = #[.int .i64 0, .int .i64 0, .int .i64 0, .int .u64 0, .int .i64 0, .int .i64 0, .int .u32 0, .int .u64 0, .int .i64 0, .slice none 0 0, .string ⟨#[]⟩, .int .u64 0, .int .u32 0, .slice none 0 0, .int .u64 0, .int .i64 0, .int .u32 0, .int .u64 0, .int .u64 0, .int .i64 0, .int .u64 0, .slice none 0 0] := rfl
  have hr := range_of_block hs.a
  rw [← hN] at hr
  have c0 : W.cell? ⟨N, 0, none⟩ = some (.int .i64 p.kind) := by exact hr 0 _ rfl
  have c1 : W.cell? ⟨N, 1, none⟩ = some (.int .i64 p.frm) := hr 1 _ rfl
  have c2 : W.cell? ⟨N, 2, none⟩ = some (.int .i64 p.dst) := hr 2 _ rfl
  rw [hma, hmz] at hW
  rw [hmz] at hW4 hza
  rw [hma]
  
  have HBD := Lib.hid (And.intro hbld hza)
  have HQ := Lib.hid hkd
  have HST := Lib.hid hst
  clear hp hmz hma hs hst hsz hr hZ hbld hza 
  go_enter Try.func16, Try.ntmps16
  go_upto_region 1 with (fail)
  rw [← hW, ← hN]
  clear hW hN
  refine wp_region_lit ?_
  iterate 6
    refine wpList_step (fun K hK => ?_)
    go_simp
    refine hK _ _ ?_
    clear hK K
    (try simp only [Act.put, List.setIfInBounds_toArray, List.set_cons_zero, List.set_cons_succ])
  refine wpList_buildZ rfl 35 #[(0, .tmp 5), (1, .tmp 7), (2, .tmp 9)] rfl Z (by simp only [List.map_toArray, List.map_cons, List.map_nil]; exact HBD.out.1) ?_
  (try simp only [Act.put, List.setIfInBounds_toArray, List.set_cons_zero, List.set_cons_succ])
  iterate 1
    refine wpList_step (fun K hK => ?_)
    go_simp
    refine hK _ _ ?_
    clear hK K
    (try simp only [Act.put, List.setIfInBounds_toArray, List.set_cons_zero, List.set_cons_succ])
  refine wpList_store_row rfl 35 (.tmp 3) (.tmp 10) rfl (N + 1 + 1) Z (by rw [← HSZ.out]; rfl) rfl 35 _ HBD.out.2 (by rw [HZ.out.1]; kernel_rfl) (by rw [HZ.out.1]; rfl) HZ.out.2 ?_
  (try simp only [Act.put, List.setIfInBounds_toArray, List.set_cons_zero, List.set_cons_succ])
  refine wpList_nil ?_
  rw [← hW4, HSZ.out]
  clear hW4 c0 c1 c2 HBD HZ
  go_upto_region 2 with (fail)
  have c0 : W4.cell? ⟨N, 0, none⟩ = some (.int .i64 p.kind) := (HST.out.src HN.out) 0 _ rfl
  have e1 : (p.kind == 1) = false := by have := HQ.out; simp; omega
  have g1 : decide (p.kind = 1) = false := by have := HQ.out; simp; omega
  have e2 : (p.kind == 2) = false := by have := HQ.out; simp; omega
  have g2 : decide (p.kind = 2) = false := by have := HQ.out; simp; omega
  have e3 : (p.kind == 3) = false := by have := HQ.out; simp; omega
  have g3 : decide (p.kind = 3) = false := by have := HQ.out; simp; omega
  have e4 : (p.kind == 4) = false := by have := HQ.out; simp; omega
  have g4 : decide (p.kind = 4) = false := by have := HQ.out; simp; omega
  have e5 : (p.kind == 5) = false := by have := HQ.out; simp; omega
  have g5 : decide (p.kind = 5) = false := by have := HQ.out; simp; omega
  have e6 : (p.kind == 6) = false := by have := HQ.out; simp; omega
  have g6 : decide (p.kind = 6) = false := by have := HQ.out; simp; omega
  have e7 : (p.kind == 7) = false := by have := HQ.out; simp; omega
  have g7 : decide (p.kind = 7) = false := by have := HQ.out; simp; omega
  have e8 : (p.kind == 8) = false := by have := HQ.out; simp; omega
  have g8 : decide (p.kind = 8) = false := by have := HQ.out; simp; omega
  have e9 : (p.kind == 9) = false := by have := HQ.out; simp; omega
  have g9 : decide (p.kind = 9) = false := by have := HQ.out; simp; omega
  by_cases h1 : p.kind < 1
  · have d1 : decide (1 ≤ p.kind) = false := by simp; omega
    go_upto_region 23 with (fail)
    clear c0 h1 d1
    have hq : selZ p = selP p := by unfold selP; have := HQ.out; simp [this]
    have hs9 : ClnSt w W4 p (selP p) := by rw [← hq]; exact HST.out
    have hA := (show ClnSt w W4 p (selP p) from hs9).q
    have HO := Lib.hid (own_any (selP p) W4 ((selP_ok HP.out).below hs9.st.bel))
    have H9 := Lib.hid hs9
    clear hs9 hq
    generalize hAA : pktA (selP p) = A at hA HO
    have hA1 : A.size = 22 := by rw [← hAA]; rfl
    rw [show w.heap.size + 2 = N + 1 + 1 from by rw [HN.out]] at hA
    have HA := Lib.hid (And.intro hA (And.intro hA1 hAA))
    clear hA hA1 hAA
    go_wp2_with (refine wpList_load_row rfl 35 (.tmp 3) rfl (N + 1 + 1) rfl 35 A (0, 0) _ HA.out.1 Try.underlying35 rfl (by rw [HA.out.2.1]; kernel_rfl) ?_)
    refine HO.out.mono ?_
    rintro e w7 ⟨⟨q, rfl, hc, ho⟩, hb⟩
    have HE := Lib.hid (clnEnd H9.out hc ho hb)
    have hz : w7.heap[N + 1]? = some (.cells (pktA zeroP) 35 (0, 0)) := by rw [HN.out]; exact (H9.out.st.below hb).b
    generalize hBB : pktA q = B at HE
    have HB := Lib.hid (And.intro hz (And.intro (show B.size = 22 by rw [← hBB]; rfl) (show B.all (·.oneCell') = true by rw [← hBB]; exact oneCell_pktA q)))
    clear hz hBB hc ho hb HO HA
    go_wp2_with (refine wpList_store_row rfl 35 (.tmp 2) (.tmp 98) rfl (N + 1) B rfl rfl 35 _ HB.out.1 (by rw [HB.out.2.1]; kernel_rfl) (by rw [HB.out.2.1]; rfl) HB.out.2.2 ?_)
    rw [← HN.out] at HE
    refine bodyPost_ret (results_cell_row Try.results16 _ _ (N + 1) 35 B (0, 0) _ rfl (setRow_heap _ _ _ _ _ _ HB.out.1) Try.underlying35 rfl (by rw [HB.out.2.1]; kernel_rfl)) rfl ?_
    exact HE.out
  · have d1 : decide (1 ≤ p.kind) = true := by simp; omega
    have d2 : decide (p.kind ≤ 11) = false := by have := HQ.out; simp; omega
    go_upto_region 23 with (fail)
    clear c0 h1 d1 d2
    have hq : selZ p = selP p := by unfold selP; have := HQ.out; simp [this]
    have hs9 : ClnSt w W4 p (selP p) := by rw [← hq]; exact HST.out
    have hA := (show ClnSt w W4 p (selP p) from hs9).q
    have HO := Lib.hid (own_any (selP p) W4 ((selP_ok HP.out).below hs9.st.bel))
    have H9 := Lib.hid hs9
    clear hs9 hq
    generalize hAA : pktA (selP p) = A at hA HO
    have hA1 : A.size = 22 := by rw [← hAA]; rfl
    rw [show w.heap.size + 2 = N + 1 + 1 from by rw [HN.out]] at hA
    have HA := Lib.hid (And.intro hA (And.intro hA1 hAA))
    clear hA hA1 hAA
    go_wp2_with (refine wpList_load_row rfl 35 (.tmp 3) rfl (N + 1 + 1) rfl 35 A (0, 0) _ HA.out.1 Try.underlying35 rfl (by rw [HA.out.2.1]; kernel_rfl) ?_)
    refine HO.out.mono ?_
    rintro e w7 ⟨⟨q, rfl, hc, ho⟩, hb⟩
    have HE := Lib.hid (clnEnd H9.out hc ho hb)
    have hz : w7.heap[N + 1]? = some (.cells (pktA zeroP) 35 (0, 0)) := by rw [HN.out]; exact (H9.out.st.below hb).b
    generalize hBB : pktA q = B at HE
    have HB := Lib.hid (And.intro hz (And.intro (show B.size = 22 by rw [← hBB]; rfl) (show B.all (·.oneCell') = true by rw [← hBB]; exact oneCell_pktA q)))
    clear hz hBB hc ho hb HO HA
    go_wp2_with (refine wpList_store_row rfl 35 (.tmp 2) (.tmp 98) rfl (N + 1) B rfl rfl 35 _ HB.out.1 (by rw [HB.out.2.1]; kernel_rfl) (by rw [HB.out.2.1]; rfl) HB.out.2.2 ?_)
    rw [← HN.out] at HE
    refine bodyPost_ret (results_cell_row Try.results16 _ _ (N + 1) 35 B (0, 0) _ rfl (setRow_heap _ _ _ _ _ _ HB.out.1) Try.underlying35 rfl (by rw [HB.out.2.1]; kernel_rfl)) rfl ?_
    exact HE.out
theorem clean_any (p : Pkt) (w : World) (hp : PktOk w p) : Calls Try.prog 16 #[.agg (pktA p)] w fun e w' => OwnEnd (selP p) w e w' := by
  by_cases ho : p.kind < 1 ∨ 11 < p.kind
  · exact ClnO_any p w hp ho
  rcases kind_cases (show 1 ≤ p.kind ∧ p.kind ≤ 11 by omega) with e | e | e | e | e | e | e | e | e | e | e
  · exact Cln1_any p w hp e
  · exact Cln2_any p w hp e
  · exact Cln3_any p w hp e
  · exact Cln4_any p w hp e
  · exact Cln5_any p w hp e
  · exact Cln6_any p w hp e
  · exact Cln7_any p w hp e
  · exact Cln8_any p w hp e
  · exact Cln9_any p w hp e
  · exact Cln10_any p w hp e
  · exact Cln11_any p w hp e
end Go.Proofs.Ytgpojbmloielmaa
