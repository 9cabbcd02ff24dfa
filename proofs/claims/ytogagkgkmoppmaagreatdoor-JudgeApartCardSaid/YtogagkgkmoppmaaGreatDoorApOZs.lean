/-
  The judge of views: a stay's name in its view; the stay of a life whose view is the one ahead.
  Conditions: those that each theorem names.
-/
import Derived.Test.YtogagkgkmoppmaaGreatDoorApKZs
import Derived.Test.YtogagkgkmoppmaaGreatDoorApL
import Derived.Deep.LoopGhost
namespace Go.Proofs.YtogagkgkmoppmaaGreatDoor
set_option linter.unusedVariables false
set_option linter.unusedSimpArgs false
open Go.RowKit GM
theorem results_cell_tmpJ {P : Program} {fn : Func} {p t : Tmp} {ty : TypeId} (h : fn.results = #[.cell p ty, .tmp t]) (tmps : Array Value) (w : World) (g : Nat) (tt : TypeId) (cs : Array Value) (fr : Nat × Nat) (d : TypeDesc) (x : Value)
    (hp : tmps.getD p undef = .pointer (some ⟨g, 0, none⟩)) (ht : tmps.getD t undef = x) (hg : w.heap[g]? = some (.cells cs tt fr))
    (hu : P.underlying ty = some d) (hd : (match d with | .struct _ | .array _ _ => true | _ => false) = true) (hi : (P.info? ty).map (·.size) = some cs.size) :
    (results fn tmps).run P w = .ok (.tuple #[.agg cs, x]) w := by
  have hp' : tmps[p]?.getD undef = .pointer (some ⟨g, 0, none⟩) := by simpa using hp
  have ht' : tmps[t]?.getD undef = x := by simpa using ht
  simp [results, h, hp', ht', asAddr, run_loadVar_row w g tt ty cs fr d hg hu hd hi]
theorem two_cells {W : World} {X : Nat} {u v : Value} {t : TypeId} (h : W.heap[X]? = some (.cells #[u, v] t (0, 0))) (a b : Value) : ((W.setCell ⟨X, 0, none⟩ a).setCell ⟨X, 1, none⟩ b).heap[X]? = some (.cells #[a, b] t (0, 0)) := by
  have h1 := heap_setCell_same W X 0 _ t a h
  exact heap_setCell_same _ X 1 _ t b h1
section
variable {wB w : World} {g o N : Nat} {l : List Ev} {nm : Nat → List NameK} {R : List Pc} {M : JM} {z : Int}
set_option maxHeartbeats 8000000 in
theorem own_gen (h : JZ wB g o l R N M z w) (hT : Tr wB g o l nm) (hv : VwOk l) {x : JX} (hx : x ∈ M.stays) :
    Calls Tryz.prog 36 #[ptrV x.b] w fun e w' => e = .returned (.tuple #[nameC (ownJ nm x.s).1, .bool (ownJ nm x.s).2]) ∧ Below w.heap.size w w' := by
  obtain ⟨X, hX⟩ : ∃ X, X = w.heap.size := ⟨_, rfl⟩
  obtain ⟨w1, hw1⟩ : ∃ w1, w1 = w.alloc (.cells #[ptrV x.b] 51) := ⟨_, rfl⟩
  obtain ⟨w2, hw2⟩ : ∃ w2, w2 = w1.alloc (.cells #[.int .i64 0, .int .u32 0] 97) := ⟨_, rfl⟩
  have hb1 : Below w.heap.size w w1 := by rw [hw1]; exact ba (br w) _
  have hb2 : Below w.heap.size w w2 := by rw [hw2]; exact ba hb1 _
  have hs1 : w1.heap.size = X + 1 := by rw [hw1, hX]; simp [go_sem]
  have hx1 : w1.heap[X]? = some (.cells #[ptrV x.b] 51 (0, 0)) := by rw [hw1, hX]; exact heap_alloc_new w _
  have hx2 : w2.heap[X]? = some (.cells #[ptrV x.b] 51 (0, 0)) := by rw [hw2]; exact ((ba (br w1) _).block X (by omega)).trans hx1
  have hy2 : w2.heap[X + 1]? = some (.cells #[.int .i64 0, .int .u32 0] 97 (0, 0)) := by rw [hw2, ← hs1]; exact heap_alloc_new w1 _
  have b0 : w2.cell? ⟨X, 0, none⟩ = some (ptrV x.b) := cell_of_row _ _ 0 _ _ _ hx2
  have s7 : w2.cell? ⟨x.b, 7, none⟩ = some (evP g o x.s.vw) := h.cell hx 7 rfl ⟨w2, hb2⟩
  have s0 : w2.cell? ⟨x.b, 0, none⟩ = some (.int .i64 x.s.proc) := h.cell hx 0 rfl ⟨w2, hb2⟩
  have HB := Lib.hid (And.intro hb2 hX)
  have HY := Lib.hid hy2
  have HP := Lib.hid (And.intro hw2 hw1)
  obtain ⟨rn, hrn⟩ : ∃ n, n = (ownJ nm x.s).1 := ⟨_, rfl⟩
  obtain ⟨rb, hrb⟩ : ∃ n, n = (ownJ nm x.s).2 := ⟨_, rfl⟩
  rw [← hrn, ← hrb]
  have HR := Lib.hid (And.intro hrn hrb)
  unfold ptrV at b0 hw1 ⊢
  unfold nameC
  rcases hvw : x.s.vw with _ | e
  · rw [hvw] at s7
    have s7' : w2.cell? ⟨x.b, 7, none⟩ = some (.pointer none) := s7
    have hj : ownJ nm x.s = ((0, 0), false) := by unfold ownJ; rw [hvw]
    rw [hj] at HR
    obtain rfl : rn = (0, 0) := HR.out.1
    obtain rfl : rb = false := HR.out.2
    clear h hT hv hx hb1 hb2 hs1 s7 hx1 hx2 hvw hj s0 hrn hrb HR
    generalize x.b = xb at *
    go_enter Tryz.func36, Tryz.ntmps36
    go_upto_region 1 with (fail)
    rw [← hw1, ← hw2]
    rw [← hX]
    clear hw1 hw2 HP hX
    have z0 : w2.cell? ⟨X + 1, 0, none⟩ = some (.int .i64 0) := cell_of_row _ _ 0 _ _ _ hy2
    have z1 : w2.cell? ⟨X + 1, 1, none⟩ = some (.int .u32 0) := cell_of_row _ _ 1 _ _ _ hy2
    have f0 : w2.frozen? ⟨X + 1, 0, none⟩ = false := frozen_of_row _ _ _ _ _ hy2
    have f1 : w2.frozen? ⟨X + 1, 1, none⟩ = false := frozen_of_row _ _ _ _ _ hy2
    clear hy2
    go_wp2_with fail
    refine bodyPost_ret (results_cell_tmpJ Tryz.results36 _ _ (X + 1) 97 _ (0, 0) _ _ rfl rfl (two_cells HY.out _ _) Tryz.underlying97 rfl (by kernel_rfl)) rfl ⟨rfl, ?_⟩
    exact bs (bs HB.out.1 (by show w.heap.size ≤ X + 1; rw [HB.out.2]; omega) _) (by show w.heap.size ≤ X + 1; rw [HB.out.2]; omega) _
  · have hel := (h.xok hx).vw e hvw
    have hxe : l[e]? = some l[e] := List.getElem?_eq_getElem hel
    obtain ⟨y, hy⟩ : ∃ y, y = l[e] := ⟨_, rfl⟩
    rw [← hy] at hxe
    have hTw := hT.below h.bel
    obtain ⟨n1, n2⟩ := hTw.nms e hel
    rw [← hy] at n1 n2
    have v17 := hTw.cell hxe 17 (v := .slice y.na y.nl y.nc) rfl
    rw [hvw] at s7
    have s7' : w2.cell? ⟨x.b, 7, none⟩ = some (.pointer (some ⟨g, o + e * 19, none⟩)) := s7
    have c17 : w2.cell? ⟨g, o + e * 19 + 17, none⟩ = some (.slice y.na y.nl y.nc) := v17 ⟨w2, hb2⟩
    rw [← n1] at n2 c17
    have hj : ownJ nm x.s = match (nm e).find? (ownQ x.s.proc) with
      | none => ((0, 0), false)
      | some n => (n, true) := by unfold ownJ; rw [hvw]; rfl
    have HI := Lib.hid (idxOwn_any x.s.proc (nm e) y.na y.nc X x.b w2 (reads_moreE (n2.below hb2) hb2.size) (by have := (hv y (by rw [hy]; exact List.getElem_mem hel)).2; omega) b0 s0)
    have HE := Lib.hid (And.intro (show ∀ W, Below w2.heap.size w2 W → Reads W W.heap.size 2 y.na (nm e).length (namesV (nm e)) from fun W hb => reads_moreE (n2.below (bt hb2 hb)) (bt hb2 hb).size) (And.intro hj (And.intro s7' c17)))
    have hix := idxB_at (ownQ x.s.proc) (nm e)
    have HIX := Lib.hid hix
    have hb0 := b0
    clear h hT hv hx hb1 hb2 hs1 hx1 hx2 hvw hj s0 hrn hrb s7 hxe hy hTw n1 n2 v17 hel hix
    generalize x.b = xb at *
    obtain ⟨r, hr⟩ : ∃ r, r = idxB (ownQ x.s.proc) (nm e) := ⟨_, rfl⟩
    rw [← hr] at HI HIX
    obtain ⟨q, hq⟩ : ∃ r, r = (nm e).length := ⟨_, rfl⟩
    rw [← hq] at HI c17
    have HQ := Lib.hid (And.intro hr hq)
    clear hr hq
    go_enter Tryz.func36, Tryz.ntmps36
    go_upto_region 1 with (fail)
    rw [← hw1, ← hw2]
    rw [← hX]
    clear hw1 hw2 HP hX
    go_wp2_with fail
    refine HI.out.mono ?_
    rintro e1 w3 ⟨rfl, hb3⟩
    have H3 := Lib.hid hb3
    clear HI c17 s7'
    rcases HIX.out with ⟨hr, hf⟩ | ⟨k, hk, hr, hf⟩
    · have hj := HE.out.2.1
      rw [hf] at hj
      rw [hj] at HR
      obtain rfl : rn = (0, 0) := HR.out.1
      obtain rfl : rb = false := HR.out.2
      subst hr
      have hy3 : w3.heap[X + 1]? = some (.cells #[.int .i64 0, .int .u32 0] 97 (0, 0)) := (H3.out.block _ (Array.getElem?_eq_some_iff.1 HY.out).1).trans HY.out
      have z0 : w3.cell? ⟨X + 1, 0, none⟩ = some (.int .i64 0) := cell_of_row _ _ 0 _ _ _ hy3
      have z1 : w3.cell? ⟨X + 1, 1, none⟩ = some (.int .u32 0) := cell_of_row _ _ 1 _ _ _ hy3
      have f0 : w3.frozen? ⟨X + 1, 0, none⟩ = false := frozen_of_row _ _ _ _ _ hy3
      have f1 : w3.frozen? ⟨X + 1, 1, none⟩ = false := frozen_of_row _ _ _ _ _ hy3
      have H3y := Lib.hid hy3
      clear hy3
      clear hf hj HR HIX b0 hb0 hy2 hb3
      go_wp2_with fail
      refine bodyPost_ret (results_cell_tmpJ Tryz.results36 _ _ (X + 1) 97 _ (0, 0) _ _ rfl rfl (two_cells H3y.out _ _) Tryz.underlying97 rfl (by kernel_rfl)) rfl ⟨rfl, ?_⟩
      exact bs (bs (bt HB.out.1 H3.out) (by show w.heap.size ≤ X + 1; rw [HB.out.2]; omega) _) (by show w.heap.size ≤ X + 1; rw [HB.out.2]; omega) _
    · have hj := HE.out.2.1
      rw [hf] at hj
      rw [hj] at HR
      have hy3 : w3.heap[X + 1]? = some (.cells #[.int .i64 0, .int .u32 0] 97 (0, 0)) := (H3.out.block _ (Array.getElem?_eq_some_iff.1 HY.out).1).trans HY.out
      have z0 : w3.cell? ⟨X + 1, 0, none⟩ = some (.int .i64 0) := cell_of_row _ _ 0 _ _ _ hy3
      have z1 : w3.cell? ⟨X + 1, 1, none⟩ = some (.int .u32 0) := cell_of_row _ _ 1 _ _ _ hy3
      have f0 : w3.frozen? ⟨X + 1, 0, none⟩ = false := frozen_of_row _ _ _ _ _ hy3
      have f1 : w3.frozen? ⟨X + 1, 1, none⟩ = false := frozen_of_row _ _ _ _ _ hy3
      have H3y := Lib.hid hy3
      clear hy3
      obtain ⟨gn, on, hna, hgn, c0, c1⟩ := names_cells (HE.out.1 w3 H3.out) hk
      obtain ⟨p, hp⟩ : ∃ p, p = (nm e)[k] := ⟨_, rfl⟩
      rw [← hp] at c0 c1 HR
      obtain rfl : rn = p := HR.out.1
      obtain rfl : rb = true := HR.out.2
      have b3 : w3.cell? ⟨X, 0, none⟩ = some (.pointer (some ⟨xb, 0, none⟩)) := (H3.out.cell (cell_lt hb0)).trans hb0
      have s3 : w3.cell? ⟨xb, 7, none⟩ = some (.pointer (some ⟨g, o + e * 19, none⟩)) := (H3.out.cell (cell_lt HE.out.2.2.1)).trans HE.out.2.2.1
      have d17 : w3.cell? ⟨g, o + e * 19 + 17, none⟩ = some (.slice (some ⟨gn, on, none⟩) q y.nc) := by
        rw [← hna, HQ.out.2]
        exact (H3.out.cell (cell_lt HE.out.2.2.2)).trans HE.out.2.2.2
      have hkq : k < q := by rw [HQ.out.2]; exact hk
      have hki : (k : Int) < (q : Int) := by omega
      subst hr
      clear hf hj HR HIX b0 hb0 hy2 hb3 hna hgn hk hp
      go_wp2_with fail
      refine bodyPost_ret (results_cell_tmpJ Tryz.results36 _ _ (X + 1) 97 _ (0, 0) _ _ rfl rfl (two_cells H3y.out _ _) Tryz.underlying97 rfl (by kernel_rfl)) rfl ⟨rfl, ?_⟩
      exact bs (bs (bt HB.out.1 H3.out) (by show w.heap.size ≤ X + 1; rw [HB.out.2]; omega) _) (by show w.heap.size ≤ X + 1; rw [HB.out.2]; omega) _
end
def ptrS (M : JM) (r : Option Nat) : Value := .pointer (r.bind fun i => M.stays[i]?.map fun x => ⟨x.b, 0, none⟩)
def aheadQ (l : List Ev) (s : JS) (y : Ev) : Bool := match s.vw with
  | none => false
  | some e => (y.vn : Int) == ((evAt l e).vn : Int)
def hitJ (l : List Ev) (num : Nat) (s : JS) : Bool := match s.vw with
  | none => false
  | some e => ((evAt l e).vn : Int) == (num : Int)
def chainJ (l : List Ev) (S : List JS) (num : Nat) : Nat → Option Nat → Option Nat
  | 0, _ => none
  | _ + 1, none => none
  | f + 1, some j => match S[j]? with
    | none => none
    | some s => if hitJ l num s = true then some j else chainJ l S num f s.bf
def aheadJ (l : List Ev) (S : List JS) (js : List Nat) (k : Nat) (s : JS) : Option Nat :=
  if idxB (aheadQ l s) (js.map (evAt l)) < 1 then none else chainJ l S (evAt l (js.getD ((idxB (aheadQ l s) (js.map (evAt l))).toNat - 1) 0)).vn k s.bf
set_option maxHeartbeats 8000000 in
theorem ahFn_any {g o : Nat} {l : List Ev} (y : Ev) (x : JX) (X : Nat) (w : World) (hX : w.cell? ⟨X, 0, none⟩ = some (ptrV x.b)) (hp : w.cell? ⟨x.b, 7, none⟩ = some (evP g o x.s.vw)) (hv : ∀ e, x.s.vw = some e → w.cell? ⟨g, o + e * 19 + 13, none⟩ = some (.int .u64 ((evAt l e).vn : Int))) :
    Calls Tryz.prog 68 #[.agg (evA y), .pointer (some ⟨X, 0, none⟩)] w fun e w' => e = .returned (.bool (aheadQ l x.s y)) ∧ Below w.heap.size w w' := by
  obtain ⟨N, hN⟩ : ∃ N, N = w.heap.size := ⟨_, rfl⟩
  obtain ⟨cy, hcy⟩ : ∃ c, c = evA y := ⟨_, rfl⟩
  rw [← hcy]
  obtain ⟨W, hW⟩ : ∃ W, W = w.alloc (.cells cy 36) := ⟨_, rfl⟩
  have hb := ba (br w) (.cells cy 36)
  have hx := heap_alloc_new w (.cells cy 36)
  rw [← hW] at hb hx
  rw [← hN] at hx
  have x13 := Bel.cell (show W.cell? ⟨N, 13, none⟩ = some (.int .u64 (y.vn : Int)) from cell_of_row _ _ 13 _ _ _ (hcy ▸ hx)) (Array.getElem?_eq_some_iff.1 hx).1
  have b0 := Bel.cell ((hb.cell (cell_lt hX)).trans hX) (Nat.lt_of_lt_of_le (cell_lt hX) hb.size)
  have s7 := Bel.cell ((hb.cell (cell_lt hp)).trans hp) (Nat.lt_of_lt_of_le (cell_lt hp) hb.size)
  have hv2 : ∀ e, x.s.vw = some e → ∀ z : Bel W, z.val.cell? ⟨g, o + e * 19 + 13, none⟩ = some (.int .u64 ((evAt l e).vn : Int)) := fun e he => Bel.cell ((hb.cell (cell_lt (hv e he))).trans (hv e he)) (Nat.lt_of_lt_of_le (cell_lt (hv e he)) hb.size)
  have HB := Lib.hid hb
  unfold ptrV at b0
  obtain ⟨q, hq⟩ : ∃ q, q = aheadQ l x.s y := ⟨_, rfl⟩
  rw [← hq]
  have z1 : cy.all (·.oneCell') = true := by rw [hcy]; simp [evA, Value.oneCell']
  have z2 : cy.size = 19 := by rw [hcy]; rfl
  clear hX hp hb hx hcy hv
  rcases hvw : x.s.vw with _ | e
  · rw [hvw] at s7
    have s7' : ∀ z : Bel W, z.val.cell? ⟨x.b, 7, none⟩ = some (.pointer none) := s7
    obtain rfl : q = false := by rw [hq]; unfold aheadQ; rw [hvw]
    clear s7 hv2 hq hvw
    generalize x.b = xb at *
    go_enter Tryz.func68, Tryz.ntmps68
    go_upto_region 1 with (fail)
    rw [← hW, ← hN]
    clear hW hN z1 z2
    refine wp_region_bel (by kernel_rfl) (by kernel_rfl) ?_
    repeat (go_big_quiet_step ((fail)))
    refine wpQuiet_nil ?_
    intro w3 hw3
    have HE := Lib.hid (bt HB.out (bel_out hw3))
    clear hw3 x13 b0 s7'
    go_wp2_with fail
    go_ret
    exact ⟨rfl, HE.out⟩
  · rw [hvw] at s7
    have s7' : ∀ z : Bel W, z.val.cell? ⟨x.b, 7, none⟩ = some (.pointer (some ⟨g, o + e * 19, none⟩)) := s7
    have v13 := hv2 e hvw
    have hq2 : ((y.vn : Int) == ((evAt l e).vn : Int)) = q := by rw [hq]; unfold aheadQ; rw [hvw]
    clear s7 hv2 hq hvw
    generalize x.b = xb at *
    generalize ((evAt l e).vn : Int) = num at *
    generalize (y.vn : Int) = yn at *
    go_enter Tryz.func68, Tryz.ntmps68
    go_upto_region 1 with (fail)
    rw [← hW, ← hN]
    clear hW hN z1 z2
    refine wp_region_bel (by kernel_rfl) (by kernel_rfl) ?_
    repeat (go_big_quiet_step ((fail)))
    refine wpQuiet_nil ?_
    intro w3 hw3
    have HE := Lib.hid (bt HB.out (bel_out hw3))
    clear hw3 x13 b0 s7' v13
    go_wp2_with fail
    go_ret
    exact ⟨by rw [← hq2]; rfl, HE.out⟩
/-- a row of events that is read -/
def RowEv (w : World) (ad : Option Addr) (L : List Ev) : Prop := L.length ≤ 500 ∧ ∀ i (hi : i < L.length), ∃ g, ad = some ⟨g, 0, none⟩ ∧ g < w.heap.size ∧ w.rangeAt g (i * 19) (evA L[i]).toList
theorem RowEv.below {w w' : World} {ad : Option Addr} {L : List Ev} (h : RowEv w ad L) (hb : Below w.heap.size w w') : RowEv w' ad L := ⟨h.1, fun i hi => by
  obtain ⟨g, e, hg, hr⟩ := h.2 i hi
  exact ⟨g, e, Nat.lt_of_lt_of_le hg hb.size, fun j u hu => (hb.cell (p := ⟨g, i * 19 + j, none⟩) hg).trans (hr j u hu)⟩⟩
set_option maxHeartbeats 8000000 in
theorem idxAh_any {g o : Nat} {l : List Ev} (x : JX) (L : List Ev) (ad : Option Addr) (cap X : Nat) (w : World) (hl : RowEv w ad L) (hX : w.cell? ⟨X, 0, none⟩ = some (ptrV x.b)) (hp : w.cell? ⟨x.b, 7, none⟩ = some (evP g o x.s.vw)) (hv : ∀ e, x.s.vw = some e → w.cell? ⟨g, o + e * 19 + 13, none⟩ = some (.int .u64 ((evAt l e).vn : Int))) :
    Calls Tryz.prog 67 #[.slice ad L.length cap, .func (.func 68) #[] #[.pointer (some ⟨X, 0, none⟩)]] w fun e w' => e = .returned (.int .i64 (idxB (aheadQ l x.s) L)) ∧ Below w.heap.size w w' := by
  obtain ⟨r, hr⟩ : ∃ r, r = idxB (aheadQ l x.s) L := ⟨_, rfl⟩
  obtain ⟨n, hn⟩ : ∃ n, n = L.length := ⟨_, rfl⟩
  rw [← hr, ← hn]
  have hn9 : n ≤ 500 := by rw [hn]; exact hl.1
  have HL := Lib.hid (And.intro hl (And.intro hn hr))
  have HX := Lib.hid (And.intro hX (And.intro hp hv))
  clear hl hn hr hX hp hv
  go_enter Tryz.func67, Tryz.ntmps67
  go_wp2_with fail
  go_loopw [8] (fun i wr => ∃ k : Nat, k ≤ n ∧ i = .int .i64 (k : Int) ∧ Hid (∀ i (hi : i < L.length), i < k → aheadQ l x.s L[i] = false) ∧ Below w.heap.size w wr) (fun i _ => n - (intOf i).toNat)
  case atStart => exact ⟨0, by omega, rfl, fun i hi h => absurd h (by omega), br _⟩
  case round =>
    obtain ⟨k, hk, rfl, HT, hbr⟩ := hrel
    have HBW := Lib.hid hbr
    by_cases hlt : k < n
    · have hd : decide ((k : Int) < (n : Int)) = true := by simpa using hlt
      have hi1 : (k : Int) < (n : Int) := by omega
      have hkl : k < L.length := by rw [← HL.out.2.1]; exact hlt
      obtain ⟨gg, rfl, hgl, hrg⟩ := (HL.out.1.below hbr).2 k hkl
      obtain ⟨y, hy⟩ : ∃ y, y = L[k] := ⟨_, rfl⟩
      rw [← hy] at hrg
      have HS := Lib.hid (ahFn_any (g := g) (o := o) (l := l) y x X wr ((hbr.cell (cell_lt HX.out.1)).trans HX.out.1) ((hbr.cell (cell_lt HX.out.2.1)).trans HX.out.2.1) (fun e he => (hbr.cell (cell_lt (HX.out.2.2 e he))).trans (HX.out.2.2 e he)))
      obtain ⟨cs, hcs⟩ : ∃ cs, cs = evA y := ⟨_, rfl⟩
      rw [← hcs] at hrg HS
      have hcl : cs.toList.toArray = cs := by simp
      rw [← hcl] at HS
      have HG := Lib.hid (And.intro hy (And.intro hrg (show cs.size = 19 by rw [hcs]; rfl)))
      clear hbr hgl hy hrg hcs hcl
      go_upto_region 4 with (fail)
      go_wp2_with (refine wpList_load_mid rfl 36 (.tmp 14) rfl gg (k * 19) (by go_num) cs.toList _ HG.out.2.1 Tryz.underlying36 rfl (by rw [Array.length_toList, HG.out.2.2]; kernel_rfl) ?_)
      cases hs : aheadQ l x.s y
      · rw [hs] at HS
        refine HS.out.mono ?_
        rintro e w1 ⟨rfl, hb1⟩
        have HE := Lib.hid (And.intro hlt (And.intro (show Hid (∀ i (hi : i < L.length), i < k + 1 → aheadQ l x.s L[i] = false) from fun i hi h => by
          by_cases hik : i = k
          · subst hik; rw [← HG.out.1]; exact hs
          · exact HT.out i hi (by omega)) (bt HBW.out hb1)))
        clear hb1 hs HS
        go_wp2_with fail
        exact ⟨⟨k + 1, HE.out.1, by go_num, HE.out.2⟩, by have := HE.out.1; simp [intOf]; omega⟩
      · have hrk : r = (k : Int) := by rw [HL.out.2.2]; exact idxB_some hkl (by rw [← HG.out.1]; exact hs) (fun i hi => HT.out i (by omega) hi)
        rw [hs] at HS
        refine HS.out.mono ?_
        rintro e w1 ⟨rfl, hb1⟩
        have hb2 := bt HBW.out hb1
        clear hb1 hs HS
        subst hrk
        go_wp2_with fail
        go_ret
        exact ⟨rfl, hb2⟩
    · have hd : decide ((k : Int) < (n : Int)) = false := by simpa using hlt
      have hrt : r = -1 := by
        rw [HL.out.2.2]
        exact idxB_none fun i hi => HT.out i hi (by have := HL.out.2.1; omega)
      subst hrt
      go_wp2_with fail
      go_ret
      exact ⟨rfl, HBW.out⟩
end Go.Proofs.YtogagkgkmoppmaaGreatDoor
namespace Go.Proofs.YtogagkgkmoppmaaGreatDoor
set_option linter.unusedVariables false
set_option linter.unusedSimpArgs false
open Go.RowKit GM
/-- the stay ahead of one, in its life, comes ahead of it in the trace -/
def BfLt (S : List JS) : Prop := ∀ (k : Nat) (s : JS), S[k]? = some s → ∀ j, s.bf = some j → j < k
/-- a stay that is ready has a view -/
def RdVw (S : List JS) : Prop := ∀ s ∈ S, s.rd.isSome = true → s.vw.isSome = true
theorem chainJ_hit {l : List Ev} {S : List JS} {num f j : Nat} {s : JS} (h : S[j]? = some s) (hh : hitJ l num s = true) : chainJ l S num (f + 1) (some j) = some j := by
  show (match S[j]? with | none => none | some s => if hitJ l num s = true then some j else chainJ l S num f s.bf) = _
  rw [h]
  exact if_pos hh
theorem chainJ_next {l : List Ev} {S : List JS} {num f j : Nat} {s : JS} (h : S[j]? = some s) (hh : hitJ l num s = false) : chainJ l S num (f + 1) (some j) = chainJ l S num f s.bf := by
  show (match S[j]? with | none => none | some s => if hitJ l num s = true then some j else chainJ l S num f s.bf) = _
  rw [h]
  exact if_neg (by rw [hh]; exact Bool.noConfusion)
theorem chainJ_nil (l : List Ev) (S : List JS) (num f : Nat) : chainJ l S num f none = none := by cases f <;> rfl
theorem chainJ_lt {l : List Ev} {S : List JS} {num : Nat} : ∀ {f : Nat} {j : Option Nat} {r : Nat}, chainJ l S num f j = some r → r < S.length ∧ ∃ s, S[r]? = some s ∧ hitJ l num s = true
  | 0, j, r, h => by cases h
  | f + 1, none, r, h => by cases h
  | f + 1, some j, r, h => by
    cases hs : S[j]? with
    | none =>
      rw [show chainJ l S num (f + 1) (some j) = none from by show (match S[j]? with | none => none | some s => if hitJ l num s = true then some j else chainJ l S num f s.bf) = _; rw [hs]] at h
      cases h
    | some s =>
      cases hh : hitJ l num s
      · rw [chainJ_next hs hh] at h
        exact chainJ_lt h
      · rw [chainJ_hit hs hh] at h
        injection h with h
        subst h
        exact ⟨(List.getElem?_eq_some_iff.1 hs).1, s, hs, hh⟩
section
variable {wB w : World} {g o N : Nat} {l : List Ev} {nm : Nat → List NameK} {R : List Pc} {M : JM} {z : Int}
theorem ptrS_bf (h : JZ wB g o l R N M z w) {x : JX} (hx : x ∈ M.stays) : (Value.pointer (x.pb.map fun b => ⟨b, 0, none⟩)) = ptrS M x.s.bf := by
  have hb := (h.xok hx).bf
  unfold ptrS
  cases hbf : x.s.bf with
  | none =>
    rw [hbf] at hb
    have hb : x.pb = none := hb
    rw [hb]
    rfl
  | some j =>
    rw [hbf] at hb
    obtain ⟨y, h1, h2⟩ := hb
    rw [h2]
    show _ = Value.pointer ((M.stays[j]?).map fun x => ⟨x.b, 0, none⟩)
    rw [h1]
    rfl
theorem ptrS_some {M : JM} {j : Nat} {y : JX} (h : M.stays[j]? = some y) : ptrS M (some j) = .pointer (some ⟨y.b, 0, none⟩) := by
  show Value.pointer ((M.stays[j]?).map fun x => ⟨x.b, 0, none⟩) = _
  rw [h]
  rfl
set_option maxRecDepth 100000 in
set_option maxHeartbeats 8000000 in
theorem ahead_gen (h : JZ wB g o l R N M z w) (hT : Tr wB g o l nm) (js : List Nat) (ad : Option Addr) (cap : Nat) (hrow : RowEv w ad (js.map (evAt l))) (hjs : ∀ j ∈ js, j < l.length) (hbf : BfLt (M.stays.map (·.s))) {k : Nat} {x : JX} (hk : M.stays[k]? = some x) :
    Calls Tryz.prog 35 #[ptrV x.b, .slice ad js.length cap] w fun e w' => e = .returned (ptrS M (aheadJ l (M.stays.map (·.s)) js k x.s)) ∧ Below w.heap.size w w' := by
  have hx : x ∈ M.stays := List.mem_of_getElem? hk
  obtain ⟨X, hX⟩ : ∃ X, X = w.heap.size := ⟨_, rfl⟩
  obtain ⟨w1, hw1⟩ : ∃ w1, w1 = w.alloc (.cells #[ptrV x.b] 51) := ⟨_, rfl⟩
  have hb1 : Below w.heap.size w w1 := by rw [hw1]; exact ba (br w) _
  have hx1 : w1.heap[X]? = some (.cells #[ptrV x.b] 51 (0, 0)) := by rw [hw1, hX]; exact heap_alloc_new w _
  have b0 : w1.cell? ⟨X, 0, none⟩ = some (ptrV x.b) := cell_of_row _ _ 0 _ _ _ hx1
  have hTw := hT.below h.bel
  have hvn : ∀ (y : JX), y ∈ M.stays → ∀ e, y.s.vw = some e → ∀ W, Below w.heap.size w W → W.cell? ⟨g, o + e * 19 + 13, none⟩ = some (.int .u64 ((evAt l e).vn : Int)) := fun y hy e he W hW => by
    have hel := (h.xok hy).vw e he
    have hxe : l[e]? = some l[e] := List.getElem?_eq_getElem hel
    rw [evAt_of hxe]
    exact hTw.cell hxe 13 rfl ⟨W, hW⟩
  have HI := Lib.hid (idxAh_any (g := g) (o := o) (l := l) x (js.map (evAt l)) ad cap X w1 (hrow.below hb1) b0 ((h.cell hx 7 rfl) ⟨w1, hb1⟩) (fun e he => hvn x hx e he w1 hb1))
  have hlen : (js.map (evAt l)).length = js.length := List.length_map _
  rw [hlen] at HI
  obtain ⟨n, hn⟩ : ∃ n, n = js.length := ⟨_, rfl⟩
  have hn5 : n ≤ 500 := by rw [hn, ← hlen]; exact hrow.1
  obtain ⟨r, hr⟩ : ∃ r, r = idxB (aheadQ l x.s) (js.map (evAt l)) := ⟨_, rfl⟩
  have hrb : r < (n : Int) ∧ -1 ≤ r := by
    rw [hr, hn, ← hlen]
    rcases idxB_at (aheadQ l x.s) (js.map (evAt l)) with ⟨h1, _⟩ | ⟨q, hq, h1, _⟩ <;> rw [h1] <;> omega
  obtain ⟨fin, hfin⟩ : ∃ r, r = aheadJ l (M.stays.map (·.s)) js k x.s := ⟨_, rfl⟩
  rw [← hfin]
  unfold aheadJ at hfin
  rw [← hr] at HI hfin
  rw [← hn] at HI ⊢
  have HF := Lib.hid (And.intro hfin hr)
  have HB := Lib.hid (And.intro hb1 hX)
  have HH := Lib.hid (And.intro h (And.intro hT (And.intro hrow (And.intro hjs (And.intro hbf (And.intro hk (And.intro hlen hn)))))))
  have HV := Lib.hid hvn
  unfold ptrV at b0 hw1 ⊢
  clear h hT hrow hjs hbf hk hb1 hx1 hTw hvn hfin hr hlen hn
  obtain ⟨xb, hxb⟩ : ∃ b, b = x.b := ⟨_, rfl⟩
  rw [← hxb] at b0 hw1 ⊢
  have HXB := Lib.hid hxb
  clear hxb
  go_enter Tryz.func35, Tryz.ntmps35
  go_upto_region 1 with (fail)
  rw [← hw1, ← hX]
  clear hw1 hX
  have hb0 := Lib.hid b0
  go_wp2_with fail
  refine HI.out.mono ?_
  rintro e1 w3 ⟨rfl, hb3⟩
  have H3 := Lib.hid (bt HB.out.1 hb3)
  have b3 : w3.cell? ⟨X, 0, none⟩ = some (.pointer (some ⟨xb, 0, none⟩)) := (hb3.cell (cell_lt hb0.out)).trans hb0.out
  clear HI b0 hb3 hb0
  by_cases hr1 : r < 1
  · obtain rfl : fin = none := by rw [HF.out.1]; exact if_pos hr1
    have hd1 : decide (r < 1) = true := by rw [decide_eq_true_eq]; exact hr1
    go_wp2_with fail
    go_ret
    exact ⟨rfl, H3.out⟩
  have hd1 : decide (r < 1) = false := by rw [decide_eq_false_iff_not]; exact hr1
  obtain ⟨num, hnum⟩ : ∃ num, num = (evAt l (js.getD (r.toNat - 1) 0)).vn := ⟨_, rfl⟩
  have hf2 : chainJ l (M.stays.map (·.s)) num k x.s.bf = fin := by rw [HF.out.1, hnum]; exact (if_neg hr1).symm
  have s12 : w3.cell? ⟨xb, 12, none⟩ = some (ptrS M x.s.bf) := by
    rw [HXB.out, ← ptrS_bf HH.out.1 hx]
    exact HH.out.1.cell hx 12 rfl ⟨w3, H3.out⟩
  obtain ⟨i, hi, rfl⟩ : ∃ i : Nat, i + 1 < n ∧ r = ((i + 1 : Nat) : Int) := ⟨r.toNat - 1, by omega, by omega⟩
  have hall : ∃ ga, ad = some ⟨ga, 0, none⟩ ∧ ∀ W, Below w.heap.size w W → ∀ z : Bel W, z.val.cell? ⟨ga, i * 19 + 13, none⟩ = some (.int .u64 (num : Int)) := by
    have hij : i < (js.map (evAt l)).length := by rw [HH.out.2.2.2.2.2.2.1, ← HH.out.2.2.2.2.2.2.2]; omega
    obtain ⟨ga, h1, h2, h3⟩ := HH.out.2.2.1.2 i hij
    refine ⟨ga, h1, fun W hW => Bel.cell ((hW.cell (p := ⟨ga, i * 19 + 13, none⟩) h2).trans ?_) (Nat.lt_of_lt_of_le h2 hW.size)⟩
    have h4 := h3 13 (.int .u64 (((js.map (evAt l))[i]).vn : Int)) rfl
    rw [h4, hnum, show ((i + 1 : Nat) : Int).toNat - 1 = i from by omega]
    have hil : i < js.length := by rw [← HH.out.2.2.2.2.2.2.2]; omega
    simp [List.getElem?_eq_getElem hil]
  obtain ⟨ga, rfl, hnm⟩ := hall
  have HN := Lib.hid hnm
  have hin : ((i + 1 : Nat) : Int) - 1 = (i : Int) := by omega
  clear hr1 hnum hnm HF
  have HC := Lib.hid hf2
  clear hf2 hrb
  have hin2 : (i : Int) + 1 - 1 = (i : Int) := by omega
  have HST := Lib.hid (show ∀ i, x.s.bf = some i → i < k ∧ ∃ y, M.stays[i]? = some y from fun i hi => by
    have hk := HH.out.2.2.2.2.2.1
    have h1 : (M.stays.map (·.s))[k]? = some x.s := by rw [List.getElem?_map, hk]; rfl
    have h2 := HH.out.2.2.2.2.1 k x.s h1 i hi
    have h3 := (List.getElem?_eq_some_iff.1 hk).1
    exact ⟨h2, M.stays[i], List.getElem?_eq_getElem (by omega)⟩)
  go_wp2_with fail
  clear b3 s12
  go_loopg [6] k (fun gk p wr => ∃ j : Option Nat, p = ptrS M j ∧ Hid (chainJ l (M.stays.map (·.s)) num gk j = fin ∧ ∀ i, j = some i → i < gk ∧ ∃ y, M.stays[i]? = some y) ∧ Hid (Below w.heap.size w wr))
  case atStart => exact ⟨x.s.bf, rfl, Lib.hid ⟨HC.out, HST.out⟩, H3⟩
  case round =>
    obtain ⟨j, rfl, HJ, HBW⟩ := hrel
    cases j with
    | none =>
      obtain rfl : fin = none := by rw [← HJ.out.1]; exact chainJ_nil _ _ _ _
      have hnil : ptrS M none = .pointer none := rfl
      rw [hnil]
      go_wp2_with fail
      go_ret
      exact ⟨rfl, HBW.out⟩
    | some j =>
      obtain ⟨hjk, y, hy⟩ := HJ.out.2 j rfl
      have hym : y ∈ M.stays := List.mem_of_getElem? hy
      cases gk with
      | zero => exact absurd hjk (Nat.not_lt_zero _)
      | succ f =>
      have hs1 : (M.stays.map (·.s))[j]? = some y.s := by rw [List.getElem?_map, hy]; rfl
      rw [ptrS_some hy]
      obtain ⟨yb, hyb⟩ : ∃ b, b = y.b := ⟨_, rfl⟩
      have d7 := HH.out.1.cell hym 7 (v := evP g o y.s.vw) rfl
      have d12 : ∀ W, Below w.heap.size w W → W.cell? ⟨yb, 12, none⟩ = some (ptrS M y.s.bf) := fun W hW => by
        rw [hyb, ← ptrS_bf HH.out.1 hym]
        exact HH.out.1.cell hym 12 rfl ⟨W, hW⟩
      have HD := Lib.hid d12
      have HS2 := Lib.hid (And.intro hs1 (And.intro hy hyb))
      have HJ2 := Lib.hid (And.intro HJ.out.1 hjk)
      have hnm := HN.out wr HBW.out
      rw [← hyb] at d7 ⊢
      have HNX := Lib.hid (show ∀ i, y.s.bf = some i → i < f ∧ ∃ y, M.stays[i]? = some y from fun i hi => by
        have h2 := HH.out.2.2.2.2.1 j y.s hs1 i hi
        have h3 := (List.getElem?_eq_some_iff.1 hy).1
        exact ⟨by omega, M.stays[i], List.getElem?_eq_getElem (by omega)⟩)
      rcases hvw : y.s.vw with _ | e
      · rw [hvw] at d7
        have d7' : ∀ z : Bel wr, z.val.cell? ⟨yb, 7, none⟩ = some (.pointer none) := fun z => d7 ⟨z.val, bt HBW.out z.prop⟩
        have hh : hitJ l num y.s = false := by unfold hitJ; rw [hvw]
        have hnx := Lib.hid ((chainJ_next hs1 hh).symm.trans HJ2.out.1)
        clear d7 d12 hs1 hy hyb hvw hh HJ HJ2 hjk
        go_upto_region 7 with (fail)
        refine wp_region_bel (by kernel_rfl) (by kernel_rfl) ?_
        repeat (go_big_quiet_step ((fail)))
        refine wpQuiet_nil ?_
        intro w5 hw5
        have HE := Lib.hid (bt HBW.out (bel_out hw5))
        have c12 := HD.out w5 HE.out
        clear hw5 d7' hnm
        go_wp2_with fail
        go_roundg f
        case measure => omega
        case rel => exact ⟨y.s.bf, rfl, Lib.hid ⟨hnx.out, HNX.out⟩, HE⟩
      · rw [hvw] at d7
        have d7' : ∀ z : Bel wr, z.val.cell? ⟨yb, 7, none⟩ = some (.pointer (some ⟨g, o + e * 19, none⟩)) := fun z => d7 ⟨z.val, bt HBW.out z.prop⟩
        have v13 : ∀ z : Bel wr, z.val.cell? ⟨g, o + e * 19 + 13, none⟩ = some (.int .u64 ((evAt l e).vn : Int)) := fun z => HV.out y hym e hvw z.val (bt HBW.out z.prop)
        cases hh : hitJ l num y.s
        · have hnx := Lib.hid ((chainJ_next hs1 hh).symm.trans HJ2.out.1)
          have hcmp : (((evAt l e).vn : Int) == (num : Int)) = false := by unfold hitJ at hh; rw [hvw] at hh; exact hh
          clear d7 d12 hs1 hy hyb hvw hh HJ HJ2 hjk
          generalize ((evAt l e).vn : Int) = nu at *
          generalize (num : Int) = nu2 at *
          go_upto_region 7 with (fail)
          refine wp_region_bel (by kernel_rfl) (by kernel_rfl) ?_
          repeat (go_big_quiet_step ((fail)))
          refine wpQuiet_nil ?_
          intro w5 hw5
          have HE := Lib.hid (bt HBW.out (bel_out hw5))
          have c12 := HD.out w5 HE.out
          clear hw5 d7' hnm v13
          go_wp2_with fail
          go_roundg f
          case measure => omega
          case rel => exact ⟨y.s.bf, rfl, Lib.hid ⟨hnx.out, HNX.out⟩, HE⟩
        · have hnx := Lib.hid ((chainJ_hit hs1 hh).symm.trans HJ2.out.1)
          have hcmp : (((evAt l e).vn : Int) == (num : Int)) = true := by unfold hitJ at hh; rw [hvw] at hh; exact hh
          have hfy : ptrS M fin = .pointer (some ⟨yb, 0, none⟩) := by rw [← hnx.out, hyb]; exact ptrS_some hy
          clear d7 d12 hs1 hy hyb hvw hh HJ HJ2 hjk
          have HFY := Lib.hid hfy
          clear hfy
          generalize ((evAt l e).vn : Int) = nu at *
          generalize (num : Int) = nu2 at *
          go_upto_region 7 with (fail)
          refine wp_region_bel (by kernel_rfl) (by kernel_rfl) ?_
          repeat (go_big_quiet_step ((fail)))
          refine wpQuiet_nil ?_
          intro w5 hw5
          have HE := Lib.hid (bt HBW.out (bel_out hw5))
          clear hw5 d7' hnm v13
          go_wp2_with fail
          go_ret
          exact ⟨by rw [HFY.out]; rfl, HE.out⟩
end
end Go.Proofs.YtogagkgkmoppmaaGreatDoor
