/-
  What packet.own returns: the same packet, in memory of its own.
  Conditions: those that each theorem names.
-/
import Derived.Test.YtgpojbmloielmaaPackM
import Derived.Lib.OwnKind
namespace Go.Proofs.Ytgpojbmloielmaa
set_option linter.unusedVariables false
set_option linter.unusedSimpArgs false
open Go.RowKit
theorem pktA_size (p : Pkt) : (pktA p).size = 22 := rfl
theorem oneCell_pktA (p : Pkt) : (pktA p).all (·.oneCell') = true := by simp [pktA, Value.oneCell']
def zeroP : Pkt := ⟨0, 0, 0, 0, 0, ⟨0, 0, 0, 0, [], ⟨#[]⟩, none, 0⟩, 0, 0, [], 0, 0, 0, 0, 0, 0, 0, [], none, 0, none, 0⟩
def OwnEnd (p : Pkt) (w : World) (e : Ending) (w' : World) : Prop := (∃ q, e = .returned (.agg (pktA q)) ∧ coreP q = coreP p ∧ OwnPk w.heap.size w' q) ∧ Below w.heap.size w w'
structure OwnSt (w W : World) (p : Pkt) : Prop where
  a : W.heap[w.heap.size]? = some (.cells (pktA p) 35 (0, 0))
  b : W.heap[w.heap.size + 1]? = some (.cells (pktA zeroP) 35 (0, 0))
  bel : Below w.heap.size w W
theorem OwnSt.lt {w W : World} {p : Pkt} (h : OwnSt w W p) : w.heap.size + 1 < W.heap.size := (Array.getElem?_eq_some_iff.1 h.b).1
theorem OwnSt.below {w W W' : World} {p : Pkt} (h : OwnSt w W p) (hb : Below W.heap.size W W') : OwnSt w W' p :=
  ⟨(hb.block _ (Array.getElem?_eq_some_iff.1 h.a).1).trans h.a, (hb.block _ h.lt).trans h.b, h.bel.trans (hb.mono h.bel.size)⟩
theorem OwnSt.kept {w W W' : World} {p : Pkt} {S : Nat → Prop} (h : OwnSt w W p) (hk : Kept S W W') (hs : ∀ k, S k → w.heap.size + 1 < k) : OwnSt w W' p :=
  ⟨hk.keep h.a (fun e => by have := hs _ e; omega), hk.keep h.b (fun e => by have := hs _ e; omega), hk.out h.bel h.bel.size (fun k hk' e => by have := hs _ e; omega)⟩
theorem OwnSt.set {w W : World} {p q : Pkt} (h : OwnSt w W p) (j : Nat) (u : Value) (hq : (pktA p).setIfInBounds j u = pktA q) : OwnSt w (W.setCell ⟨w.heap.size, j, none⟩ u) q ∧ Kept (fun b => b = w.heap.size) W (W.setCell ⟨w.heap.size, j, none⟩ u) := by
  have hk : Kept (fun b => b = w.heap.size) W (W.setCell ⟨w.heap.size, j, none⟩ u) := (show Kept (fun b => b = w.heap.size) W W from .refl _ _).setCell (p := ⟨w.heap.size, j, none⟩) rfl _
  refine ⟨⟨?_, hk.keep h.b (by omega), hk.out h.bel h.bel.size (fun k hk' e => by omega)⟩, hk⟩
  rw [← hq]
  exact setCell_block h.a j u
theorem kept_setRow (w : World) (M : Nat) (cs : Array Value) : Kept (fun b => b = M) w (w.setRow M cs) := ⟨rfl, rfl, rfl, by rw [size_setRow]; exact Nat.le_refl _, fun i _ hs => setRow_other _ _ _ _ hs⟩
theorem nums_not {w : World} {b : Nat} {cs : Array Value} {t : TypeId} {fr : Nat × Nat} (h : w.heap[b]? = some (.cells cs t fr)) (ht : t ≠ 29) {b' : Nat} {cs' : Array Value} {fr' : Nat × Nat} (h' : w.heap[b']? = some (.cells cs' 29 fr')) : b' ≠ b := by
  intro e
  subst e
  rw [h] at h'
  injection h' with h'
  injection h' with _ h2
  exact ht h2
theorem bel2 {w W : World} {p : Pkt} (h : OwnSt w W p) : Below w.heap.size w W := h.bel
set_option maxRecDepth 100000 in
set_option maxHeartbeats 8000000 in
theorem own_any (p : Pkt) (w : World) (hp : PktOk w p) : Calls Try.prog 35 #[.agg (pktA p)] w fun e w' => OwnEnd p w e w' := by
  obtain ⟨N, hN⟩ : ∃ N, N = w.heap.size := ⟨_, rfl⟩
  obtain ⟨W, hW⟩ : ∃ W, W = (w.alloc (.cells (pktA p) 35)).alloc (.cells (pktA zeroP) 35) := ⟨_, rfl⟩
  have hst : OwnSt w W p := by
    rw [hW]
    have b1 := ba (br w) (.cells (pktA p) 35)
    have b2 := ba (br (w.alloc (.cells (pktA p) 35))) (.cells (pktA zeroP) 35)
    have h1 := heap_alloc_new w (.cells (pktA p) 35)
    have h2 := heap_alloc_new (w.alloc (.cells (pktA p) 35)) (.cells (pktA zeroP) 35)
    have s1 : (w.alloc (.cells (pktA p) 35)).heap.size = w.heap.size + 1 := by simp
    exact ⟨(b2.block _ (by omega)).trans h1, by rw [← s1]; exact h2, bt b1 b2⟩
  have HP := Lib.hid hp
  obtain ⟨i1, hi, hz0, hz1, hz2⟩ := info_parts info29
  obtain ⟨i2, hj, hy0, hy1, hy2⟩ := info_parts info51
  have hg5 := hp.got.1
  have hd5 := hp.m.2.2.2.1
  have hx5 := hp.xs.1
  have HN := Lib.hid hN
  have hma : pktA p = #[.int .i64 p.kind, .int .i64 p.frm, .int .i64 p.dst, .int .u64 (p.ce : Int), .int .i64 p.cr, .int .i64 p.m.frm, .int .u32 (p.m.seq : Int), .int .u64 (p.m.stamp : Int), .int .i64 p.m.service, .slice p.m.da p.m.ds.length p.m.dc, .string p.m.pay, .int .u64 (p.stamp : Int), .int .u32 (p.sent : Int), .slice p.ga p.got.length p.gc, .int .u64 (p.hor : Int), .int .i64 p.whom, .int .u32 (p.seq : Int), .int .u64 (p.mem : Int), .int .u64 (p.pe : Int), .int .i64 p.pr, .int .u64 (p.epoch : Int), .slice p.xa p.xs.length p.xc] := rfl
  have hmz : pktA zeroP = #[.int .i64 0, .int .i64 0, .int .i64 0, .int .u64 0, .int .i64 0, .int .i64 0, .int .u32 0, .int .u64 0, .int .i64 0, .slice none 0 0, .string ⟨#[]⟩, .int .u64 0, .int .u32 0, .slice none 0 0, .int .u64 0, .int .i64 0, .int .u32 0, .int .u64 0, .int .u64 0, .int .i64 0, .int .u64 0, .slice none 0 0] := rfl
  rw [hma, hmz] at hW
  rw [hma]
  clear hp hmz
  go_enter Try.func35, Try.ntmps35
  go_upto_region 1 with (fail)
  rw [← hW, ← hN]
  clear hW hma hN
  have HS := Lib.hid hst
  have hlt := hst.lt
  have c13 : W.cell? ⟨N, 13, none⟩ = some (.slice p.ga p.got.length p.gc) := by rw [HN.out]; exact cell_of_row _ _ 13 _ _ _ hst.a
  have hR := Lib.hid ((HP.out.below (bel2 hst)).got.reads)
  clear hst
  go_wp2_with (at_builtin; refine wpList_append_any _ rfl (.const (.slice none 0 0)) (.tmp 6) 30 rfl (w.heap.size + 2) 29 i1 _ 1 4 Try.underlying30 hi hz0 hz1 hz2 rfl (by decide) (.slice none 0 0) 0 [] rfl ⟨rfl, .inl ⟨rfl, rfl⟩⟩ W.heap.size _ p.got.length _ (numsM p.got) rfl hR.out (numsM_one _) (by unfold maxLen; omega) (by omega) (by omega) ?_)
  intro v1 x1 ho1 hg1 hu1
  have hb1 : Below W.heap.size W x1 := grownB (br _) (Nat.le_refl _) hg1 (fun b hb => by cases hb)
  (try rw [List.nil_append] at ho1)
  (try simp only [Nat.zero_add] at ho1)
  obtain ⟨a1, q1, rfl⟩ := ownForm ho1
  have hs1 := HS.out.below hb1
  have d13 : x1.cell? ⟨N, 13, none⟩ = some (.slice p.ga p.got.length p.gc) := by rw [HN.out]; exact cell_of_row _ _ 13 _ _ _ hs1.a
  have f13 : x1.frozen? ⟨N, 13, none⟩ = false := by rw [HN.out]; exact frozen_of_row _ _ _ _ _ hs1.a
  obtain ⟨W1, hW1⟩ : ∃ W1, W1 = x1.setCell ⟨N, 13, none⟩ (.slice a1 p.got.length q1) := ⟨_, rfl⟩
  have hset := hs1.set (q := { p with ga := a1, gc := q1 }) 13 (.slice a1 p.got.length q1) (by rfl)
  rw [← HN.out, ← hW1] at hset
  obtain ⟨hst, hk1⟩ := hset
  have ho := own_keptS ho1 hk1 (fun b hb e => by have := (ho1.lt b hb).1; rw [e, HN.out] at this; omega)
  clear ho1 hk1 hg1 hu1 hs1 hlt
  go_upto_region 2 with (fail)
  rw [← hW1]
  have hk1 : Kept (fun b => b = w.heap.size) x1 W1 := by rw [hW1, ← HN.out]; exact (show Kept (fun b => b = N) x1 x1 from .refl _ _).setCell (p := ⟨N, 13, none⟩) rfl _
  have H1 := Lib.hid (And.intro hst ho)
  have hlt1 := hst.lt
  have hr2 := (HP.out.below (bel2 hst)).m.2.2.2.reads
  clear hk1 ho hb1 d13 f13 c13 hR HS hW1
  have c9 : W1.cell? ⟨N, 9, none⟩ = some (.slice p.m.da p.m.ds.length p.m.dc) := by rw [HN.out]; exact cell_of_row _ _ 9 _ _ _ hst.a
  have hR := Lib.hid (hr2)
  clear hst hr2
  go_wp2_with (at_builtin; refine wpList_append_any _ rfl (.const (.slice none 0 0)) (.tmp 11) 30 rfl (w.heap.size + 2) 29 i1 _ 1 4 Try.underlying30 hi hz0 hz1 hz2 rfl (by decide) (.slice none 0 0) 0 [] rfl ⟨rfl, .inl ⟨rfl, rfl⟩⟩ W1.heap.size _ p.m.ds.length _ (numsM p.m.ds) rfl hR.out (numsM_one _) (by unfold maxLen; omega) (by omega) (by omega) ?_)
  intro v2 x2 ho2 hg2 hu2
  have hb2 : Below W1.heap.size W1 x2 := grownB (br _) (Nat.le_refl _) hg2 (fun b hb => by cases hb)
  (try rw [List.nil_append] at ho2)
  (try simp only [Nat.zero_add] at ho2)
  obtain ⟨a2, q2, rfl⟩ := ownForm ho2
  have hs2 := H1.out.1.below hb2
  have d9 : x2.cell? ⟨N, 9, none⟩ = some (.slice p.m.da p.m.ds.length p.m.dc) := by rw [HN.out]; exact cell_of_row _ _ 9 _ _ _ hs2.a
  have f9 : x2.frozen? ⟨N, 9, none⟩ = false := by rw [HN.out]; exact frozen_of_row _ _ _ _ _ hs2.a
  obtain ⟨W2, hW2⟩ : ∃ W2, W2 = x2.setCell ⟨N, 9, none⟩ (.slice a2 p.m.ds.length q2) := ⟨_, rfl⟩
  have hset := hs2.set (q := { p with ga := a1, gc := q1, m := { p.m with da := a2, dc := q2 } }) 9 (.slice a2 p.m.ds.length q2) (by rfl)
  rw [← HN.out, ← hW2] at hset
  obtain ⟨hst, hk2⟩ := hset
  have ho := own_keptS ho2 hk2 (fun b hb e => by have := (ho2.lt b hb).1; rw [e, HN.out] at this; omega)
  clear ho2 hk2 hg2 hu2 hs2 hlt1
  go_upto_region 3 with (fail)
  rw [← hW2]
  have hk2 : Kept (fun b => b = w.heap.size) x2 W2 := by rw [hW2, ← HN.out]; exact (show Kept (fun b => b = N) x2 x2 from .refl _ _).setCell (p := ⟨N, 9, none⟩) rfl _
  have hk12 := (Kept.of_below (S := fun b => b = w.heap.size) hb2).trans hk2
  have ho12 := own_keptS H1.out.2 hk12 (fun b hb e => by have := (H1.out.2.lt b hb).1; omega)
  have H2 := Lib.hid (And.intro hst (And.intro ho12 ho))
  have hlt2 := hst.lt
  have hr3 := (HP.out.below (bel2 hst)).xs.reads
  clear hk2 ho hb2 d9 f9 c9 hR H1 hW2 hk12 ho12
  have c21 : W2.cell? ⟨N, 21, none⟩ = some (.slice p.xa p.xs.length p.xc) := by rw [HN.out]; exact cell_of_row _ _ 21 _ _ _ hst.a
  have hR := Lib.hid (hr3)
  clear hst hr3
  go_wp2_with (at_builtin; refine wpList_append_any _ rfl (.const (.slice none 0 0)) (.tmp 16) 33 rfl (w.heap.size + 2) 51 i2 _ 6 64 Try.underlying33 hj hy0 hy1 hy2 rfl (by decide) (.slice none 0 0) 0 [] rfl ⟨rfl, .inl ⟨rfl, rfl⟩⟩ W2.heap.size _ p.xs.length _ (exsM p.xs) rfl hR.out (exsM_one _) (by unfold maxLen; omega) (by omega) (by omega) ?_)
  intro v3 x3 ho3 hg3 hu3
  have hb3 : Below W2.heap.size W2 x3 := grownB (br _) (Nat.le_refl _) hg3 (fun b hb => by cases hb)
  (try rw [List.nil_append] at ho3)
  (try simp only [Nat.zero_add] at ho3)
  obtain ⟨a3, q3, rfl⟩ := ownForm ho3
  have hs3 := H2.out.1.below hb3
  have d21 : x3.cell? ⟨N, 21, none⟩ = some (.slice p.xa p.xs.length p.xc) := by rw [HN.out]; exact cell_of_row _ _ 21 _ _ _ hs3.a
  have f21 : x3.frozen? ⟨N, 21, none⟩ = false := by rw [HN.out]; exact frozen_of_row _ _ _ _ _ hs3.a
  obtain ⟨W3, hW3⟩ : ∃ W3, W3 = x3.setCell ⟨N, 21, none⟩ (.slice a3 p.xs.length q3) := ⟨_, rfl⟩
  have hset := hs3.set (q := { p with ga := a1, gc := q1, m := { p.m with da := a2, dc := q2 }, xa := a3, xc := q3 }) 21 (.slice a3 p.xs.length q3) (by rfl)
  rw [← HN.out, ← hW3] at hset
  obtain ⟨hst, hk3⟩ := hset
  have ho := own_keptS ho3 hk3 (fun b hb e => by have := (ho3.lt b hb).1; rw [e, HN.out] at this; omega)
  clear ho3 hk3 hg3 hu3 hs3 hlt2
  go_upto_region 4 with (fail)
  rw [← hW3]
  have hk3 : Kept (fun b => b = w.heap.size) x3 W3 := by rw [hW3, ← HN.out]; exact (show Kept (fun b => b = N) x3 x3 from .refl _ _).setCell (p := ⟨N, 21, none⟩) rfl _
  have hk23 := (Kept.of_below (S := fun b => b = w.heap.size) hb3).trans hk3
  have ho13 := own_keptS H2.out.2.1 hk23 (fun b hb e => by have := (H2.out.2.1.lt b hb).1; omega)
  have ho23 := own_keptS H2.out.2.2 hk23 (fun b hb e => by have := (H2.out.2.2.lt b hb).1; omega)
  have H3 := Lib.hid (And.intro hst (And.intro ho13 (And.intro ho23 ho)))
  have c21 : W3.cell? ⟨N, 21, none⟩ = some (.slice a3 p.xs.length q3) := by rw [HN.out]; exact cell_of_row _ _ 21 _ _ _ hst.a
  clear hst hk3 ho hb3 d21 f21 hR H2 hW3 hk23 ho13 ho23
  go_wp2_with fail
  go_loopw [22] (fun i wr => ∃ (k : Nat) (X : List Exch), k ≤ p.xs.length ∧ i = .int .i64 (k : Int) ∧ Hid (X.length = p.xs.length ∧ X.map coreX = p.xs.map coreX ∧ (∀ j (h : j < X.length) (h' : j < p.xs.length), k ≤ j → X[j] = p.xs[j]) ∧ (∀ j (h : j < X.length), j < k → OwnN (w.heap.size + 2) wr X[j].ca X[j].cs X[j].cc))
      ∧ OwnSt w wr { p with ga := a1, gc := q1, m := { p.m with da := a2, dc := q2 }, xa := a3, xc := q3 } ∧ OwnN (w.heap.size + 2) wr a1 p.got q1 ∧ OwnN (w.heap.size + 2) wr a2 p.m.ds q2 ∧ wr.ownsRow (w.heap.size + 2) 51 6 (.slice a3 p.xs.length q3) p.xs.length (exsM X)) (fun i _ => p.xs.length - (intOf i).toNat)
  case atStart => exact ⟨0, p.xs, by omega, rfl, ⟨rfl, rfl, fun _ _ _ _ => rfl, fun j _ h => absurd h (by omega)⟩, H3.out.1, H3.out.2.1, H3.out.2.2.1, H3.out.2.2.2⟩
  case round =>
    obtain ⟨k, X, hk, rfl, HX, hst, hog, hod, hox⟩ := hrel
    by_cases hlt : k < p.xs.length
    · have hbool : decide (k < p.xs.length) = true := by simpa using hlt
      have hbool' : decide ((k : Int) < (p.xs.length : Int)) = true := by simpa using hlt
      have hki : (k : Int) < (p.xs.length : Int) := by omega
      have hkX : k < X.length := by rw [HX.out.1]; exact hlt
      have hox' : wr.ownsRow (w.heap.size + 2) 51 6 (.slice a3 X.length q3) X.length (exsM X) := by rw [HX.out.1]; exact hox
      obtain ⟨g, rfl, hg0, hg1, hrow⟩ := own_ex hox' hkX
      have hXk := HX.out.2.2.1 k hkX hlt (Nat.le_refl _)
      have hxw : ExW wr p.xs[k] := (HP.out.below hst.bel).xs.2 k hlt |>.1
      have hset := exsM_set X k hkX
      obtain ⟨x, hx⟩ : ∃ x, x = X[k] := ⟨_, rfl⟩
      rw [← hXk] at hxw
      rw [← hx] at hrow hxw hset
      obtain ⟨d0, d1, d2, d3, d4, d5⟩ := ex_cells hrow
      obtain ⟨E, hE⟩ : ∃ E, E = wr.heap.size := ⟨_, rfl⟩
      obtain ⟨W5, hW5⟩ : ∃ W5, W5 = wr.alloc (.cells (exA x) 51) := ⟨_, rfl⟩
      have hb5 : Below wr.heap.size wr W5 := by rw [hW5]; exact ba (br wr) _
      have hn5 : W5.heap[E]? = some (.cells (exA x) 51 (0, 0)) := by rw [hW5, hE]; exact heap_alloc_new wr _
      have hxm : exA x = #[.int .i64 x.who, .int .u64 (x.oe : Int), .int .i64 x.orp, .slice x.ca x.cs.length x.cc, .int .u64 (x.ls : Int), .int .i64 x.lf] := rfl
      have HE := Lib.hid hE
      rw [hxm] at hW5
      clear hxm hrow hox' hXk hE
      have HK := Lib.hid (And.intro hst (And.intro hog (And.intro hod (And.intro hox (And.intro hg0 (And.intro hg1 (And.intro hxw (And.intro hset (And.intro hx (And.intro hlt (And.intro hb5 hn5)))))))))))
      clear hst hog hod hox hg0 hg1 hxw hset hx hlt hb5 hn5
      go_upto_region 7 with (fail)
      rw [← hW5, ← HE.out]
      clear hW5 d0 d1 d2 d3 d4 d5
      have hb5 := HK.out.2.2.2.2.2.2.2.2.2.2.1
      have hn5 := HK.out.2.2.2.2.2.2.2.2.2.2.2
      have hstb := HK.out.1.below hb5
      have hbS := HK.out.1.lt
      have hS : ∀ w' : World, Below W5.heap.size W5 w' → w'.cell? ⟨N, 21, none⟩ = some (.slice (some ⟨g, 0, none⟩) p.xs.length q3) ∧ w'.cell? ⟨E, 3, none⟩ = some (.slice x.ca x.cs.length x.cc) := by
        intro w' hb
        have e1 := (hstb.below hb).a
        rw [← HN.out] at e1
        have e2 := (hb.block _ (Array.getElem?_eq_some_iff.1 hn5).1).trans hn5
        exact ⟨cell_of_row _ _ 21 _ _ _ e1, cell_of_row _ _ 3 _ _ _ e2⟩
      have HS := Lib.hid hS
      have hcs5 : x.cs.length ≤ 35184372087808 := HK.out.2.2.2.2.2.2.1.2.2.1
      have hRd : Reads W5 W5.heap.size 1 x.ca x.cs.length (numsM x.cs) := (HK.out.2.2.2.2.2.2.1.2.2.below hb5).reads
      have HR := Lib.hid hRd
      have hbase : w.heap.size + 2 ≤ W5.heap.size := by have := hb5.size; omega
      have hox5 := own_keptS HK.out.2.2.2.1 (Kept.of_below (S := fun _ => False) hb5) (fun _ _ h => h)
      have HO5 := Lib.hid hox5
      have hXk6 : k * 6 + 3 < p.xs.length * 6 := by have := HK.out.2.2.2.2.2.2.2.2.2.1; omega
      clear hS hRd hstb hbS hox5 hn5 hb5
      go_region_held3 (fun w' => w'.cell? ⟨N, 21, none⟩ = some (.slice (some ⟨g, 0, none⟩) p.xs.length q3) ∧ w'.cell? ⟨E, 3, none⟩ = some (.slice x.ca x.cs.length x.cc)) (first | exact HS.out _ (br _) | exact HS.out _ (br W5).drew | exact HS.out _ (by assumption) | exact ⟨by assumption, by assumption⟩ | go_keep)
        (first
          | (refine step_append_any _ rfl (.const (.slice none 0 0)) (.tmp 31) 30 rfl (w.heap.size + 2) 29 i1 _ 1 4 Try.underlying30 hi hz0 hz1 hz2 rfl (by decide) (.slice none 0 0) 0 [] rfl ⟨rfl, .inl ⟨rfl, rfl⟩⟩ W5.heap.size _ x.cs.length _ (numsM x.cs) rfl HR.out.drew (numsM_one _) (by unfold maxLen; omega) (by omega) (by simpa using hbase) ?_
             intro v6 w6 ho6 hg6 hu6
             have hb6 : Below W5.heap.size W5 w6 := grownB (br W5).drew (by simp) hg6 (fun b hb => by cases hb)
             simp only [Nat.zero_add, List.nil_append] at ho6
             obtain ⟨a6, q6, rfl⟩ := ownForm ho6
             have ho56 := own_keptS HO5.out (Kept.of_below (S := fun _ => False) hb6) (fun _ _ h => h)
             have e6 : w6.cell? ⟨g, k * 6 + 3, none⟩ = some (.slice x.ca x.cs.length x.cc) := by
               have := ho56.cellAt (k * 6 + 3) hXk6
               rw [this]
               exact exsM_at X k hkX 3 _ (by rw [← HK.out.2.2.2.2.2.2.2.2.1]; rfl)
             have S6 := HS.out _ hb6
             have hgN := HK.out.2.2.2.2.1
             have hgE := HK.out.2.2.2.2.2.1
             have g1 : (w6.setCell ⟨g, k * 6 + 3, none⟩ (.slice a6 x.cs.length q6)).cell? ⟨N, 21, none⟩ = some (.slice (some ⟨g, 0, none⟩) p.xs.length q3) := (World.cell?_setCell_other w6 _ _ _ (by intro e; injection e with e; rw [e, HN.out] at hgN; omega)).trans S6.1
             have g2 : (w6.setCell ⟨g, k * 6 + 3, none⟩ (.slice a6 x.cs.length q6)).cell? ⟨E, 3, none⟩ = some (.slice x.ca x.cs.length x.cc) := (World.cell?_setCell_other w6 _ _ _ (by intro e; injection e with e; rw [e, HE.out] at hgE; omega)).trans S6.2
             have f6 : w6.frozen? ⟨g, k * 6 + 3, none⟩ = false := ho56.frozenAt _))
      have hst6 := (HK.out.1.below HK.out.2.2.2.2.2.2.2.2.2.2.1).below hb6
      have hk6 : Kept (fun b => b = g) w6 (w6.setCell ⟨g, k * 6 + 3, none⟩ (.slice a6 x.cs.length q6)) := (show Kept (fun b => b = g) w6 w6 from .refl _ _).setCell (p := ⟨g, k * 6 + 3, none⟩) rfl _
      have hb56 := bt HK.out.2.2.2.2.2.2.2.2.2.2.1 hb6
      have hgx := Lib.ownsRow_kind ho56 g rfl
      have hN32 : ∀ (b : Nat) (cs : Array Value) (fr : Nat × Nat), w6.heap[b]? = some (.cells cs 29 fr) → w.heap.size + 2 ≤ b → ¬ b = g := by
        obtain ⟨c, fz, hgx⟩ := hgx
        intro b cs fr h _
        exact nums_not hgx (by decide) h
      have HEND := Lib.hid (And.intro (hst6.kept hk6 (fun k hk => by rw [hk]; omega)) (And.intro ((HK.out.2.1.below hb56).kept hk6 hN32) (And.intro ((HK.out.2.2.1.below hb56).kept hk6 hN32) (ho56.stored (k * 6 + 3) (.slice a6 x.cs.length q6)).1)))
      have hset := HK.out.2.2.2.2.2.2.2.1 a6 q6
      have HXE := Lib.hid (show Hid ((X.set k { x with ca := a6, cc := q6 }).length = p.xs.length ∧ (X.set k { x with ca := a6, cc := q6 }).map coreX = p.xs.map coreX ∧ (∀ j (h : j < (X.set k { x with ca := a6, cc := q6 }).length) (h' : j < p.xs.length), k + 1 ≤ j → (X.set k { x with ca := a6, cc := q6 })[j] = p.xs[j]) ∧ (∀ j (h : j < (X.set k { x with ca := a6, cc := q6 }).length), j < k + 1 → OwnN (w.heap.size + 2) (w6.setCell ⟨g, k * 6 + 3, none⟩ (.slice a6 x.cs.length q6)) (X.set k { x with ca := a6, cc := q6 })[j].ca (X.set k { x with ca := a6, cc := q6 })[j].cs (X.set k { x with ca := a6, cc := q6 })[j].cc)) from by
        refine ⟨by rw [List.length_set]; exact HX.out.1, ?_, ?_, ?_⟩
        · rw [← HX.out.2.1, List.map_set]
          have : coreX { x with ca := a6, cc := q6 } = coreX x := rfl
          rw [this, HK.out.2.2.2.2.2.2.2.2.1, ← List.getElem_map coreX (h := by simpa using hkX), List.set_getElem_self]
        · intro j h h' hj
          rw [List.getElem_set_ne (by omega)]
          exact HX.out.2.2.1 j (by simpa using h) h' (by omega)
        · intro j h hj
          by_cases hjk : j = k
          · subst hjk
            rw [List.getElem_set_self]
            exact (show OwnN (w.heap.size + 2) w6 a6 x.cs q6 from ho6).kept hk6 hN32
          · rw [List.getElem_set_ne (by omega)]
            exact ((HX.out.2.2.2 j (by simpa using h) (by omega)).below hb56).kept hk6 hN32)
      have HF := Lib.hid (And.intro (show (w6.setCell ⟨g, k * 6 + 3, none⟩ (.slice a6 x.cs.length q6)).ownsRow (w.heap.size + 2) 51 6 (.slice (some ⟨g, 0, none⟩) p.xs.length q3) p.xs.length (exsM (X.set k { x with ca := a6, cc := q6 })) from by
        have h1 := HEND.out.2.2.2
        have h2 : (exsM X).set (k * 6 + 3) (.slice a6 x.cs.length q6) = exsM (X.set k { x with ca := a6, cc := q6 }) := by
          have := HK.out.2.2.2.2.2.2.2.2.1
          rw [← hset]
        rw [h2] at h1
        exact h1) HK.out.2.2.2.2.2.2.2.2.2.1)
      clear hst6 hk6 hb56 hgx hN32 hset ho56 ho6 hg6 hu6 hb6 e6 f6 g1 g2 S6 hgN hgE
      go_wp2_with fail
      exact ⟨⟨k + 1, X.set k { x with ca := a6, cc := q6 }, HF.out.2, by go_num, HXE.out, HEND.out.1, HEND.out.2.1, HEND.out.2.2.1, HF.out.1⟩, measI HF.out.2⟩
    · have hbool : decide (k < p.xs.length) = false := by simpa using hlt
      have hbool' : decide ((k : Int) < (p.xs.length : Int)) = false := by simpa using hlt
      have hr9 := hst.a
      rw [← HN.out] at hr9
      have c21 : wr.cell? ⟨N, 21, none⟩ = some (.slice a3 p.xs.length q3) := cell_of_row _ _ 21 _ _ _ hr9
      have hz9 := hst.b
      rw [← HN.out] at hz9
      obtain ⟨A, hA⟩ : ∃ A, A = pktA { p with ga := a1, gc := q1, m := { p.m with da := a2, dc := q2 }, xa := a3, xc := q3 } := ⟨_, rfl⟩
      have hA1 : A.size = 22 := by rw [hA]; rfl
      have hA2 : A.all (·.oneCell') = true := by rw [hA]; exact oneCell_pktA _
      rw [← hA] at hr9
      have HE := Lib.hid (show OwnEnd p w (.returned (.agg A)) (wr.setRow (N + 1) A) from by
        have hk : Kept (fun b => b = N + 1) wr (wr.setRow (N + 1) A) := kept_setRow _ _ _
        have hbel : Below w.heap.size w (wr.setRow (N + 1) A) := hk.out hst.bel hst.bel.size (fun k hk' e => by rw [HN.out] at e; omega)
        have hbs : ∀ (v : Value) (b : Nat) e size n xs, wr.ownsRow (w.heap.size + 2) e size v n xs → v.ownBlock = some b → ¬ b = N + 1 := fun v b e size n xs ho hb e' => by have := (ho.lt b hb).1; rw [e', HN.out] at this; omega
        refine ⟨⟨{ p with ga := a1, gc := q1, m := { p.m with da := a2, dc := q2 }, xa := a3, xc := q3, xs := X }, ?_, ?_, ?_⟩, hbel⟩
        · rw [hA]
          congr 2
          unfold pktA
          rw [show ({ p with ga := a1, gc := q1, m := { p.m with da := a2, dc := q2 }, xa := a3, xc := q3, xs := X } : Pkt).xs.length = p.xs.length from HX.out.1]
        · unfold coreP
          simp only [HX.out.2.1]
        · refine ⟨ownMore (own_keptS hog hk (fun b hb => hbs _ b _ _ _ _ hog hb)) (by omega), ownMore (own_keptS hod hk (fun b hb => hbs _ b _ _ _ _ hod hb)) (by omega), ?_, ?_⟩
          · show (wr.setRow (N + 1) A).ownsRow w.heap.size 51 6 (.slice a3 X.length q3) X.length (exsM X)
            rw [HX.out.1]
            exact ownMore (own_keptS hox hk (fun b hb => hbs _ b _ _ _ _ hox hb)) (by omega)
          · intro x hx
            obtain ⟨j, hj, rfl⟩ := List.getElem_of_mem hx
            have hjk : j < k := by have h1 := HX.out.1; have : j < X.length := hj; omega
            have ho := HX.out.2.2.2 j hj hjk
            exact ownMore (own_keptS ho hk (fun b hb => hbs _ b _ _ _ _ ho hb)) (by omega))
      have H9 := Lib.hid (And.intro hr9 (And.intro hz9 (And.intro hA1 hA2)))
      clear hst hog hod hox hr9 hz9 hA hA1 hA2
      go_wp2_with (first
        | (refine wpList_load_row rfl 35 (.tmp 1) rfl N rfl 35 A (0, 0) _ H9.out.1 Try.underlying35 rfl (by rw [H9.out.2.2.1]; kernel_rfl) ?_)
        | (refine wpList_store_row rfl 35 (.tmp 2) (.tmp 36) rfl (N + 1) A rfl rfl 35 _ H9.out.2.1 (by rw [H9.out.2.2.1]; kernel_rfl) (by rw [H9.out.2.2.1]; rfl) H9.out.2.2.2 ?_))
      refine bodyPost_ret (results_cell_row Try.results35 _ _ (N + 1) 35 A (0, 0) _ rfl (setRow_heap _ _ _ _ _ _ H9.out.2.1) Try.underlying35 rfl (by rw [H9.out.2.2.1]; kernel_rfl)) rfl ?_
      exact HE.out
end Go.Proofs.Ytgpojbmloielmaa
