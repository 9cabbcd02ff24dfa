/-
  An order's head: the first message by keys of those that come next.
  Conditions: those that each theorem names.
-/
import Derived.Test.YtgjlcjbmcnofiaaDoorOrdAB
namespace Go.Proofs.YtgjlcjbmcnofiaaDoor
set_option linter.unusedVariables false
set_option linter.unusedSimpArgs false
open Go.RowKit
/-- a message out of an answer that may be none -/
def Got (B : Nat) (w : World) (o : Option Msg) (mv : Msg) : Prop := (o = none → mv = zeroM) ∧ (∀ m, o = some m → core mv = core m) ∧ MsgOk w mv ∧ (∀ ad, mv.da = some ad → 0 < mv.ds.length → B ≤ ad.block) ∧ VecT w mv
theorem zero_ok (w : World) : MsgOk w zeroM := ⟨by decide, by decide, by decide, by decide, fun i hi => absurd hi (by simp [zeroM])⟩
theorem zero_vec (w : World) : VecT w zeroM := fun ad h => by cases h
theorem VecT.kept {w w' : World} {m : Msg} {S : Nat → Prop} (h : VecT w m) (hk : Kept S w w') (hS : ∀ ad, m.da = some ad → 0 < m.ds.length → ¬ S ad.block) : VecT w' m := fun ad h1 h2 => by
  obtain ⟨cs, fr, hc⟩ := h ad h1 h2
  exact ⟨cs, fr, hk.keep hc (hS ad h1 h2)⟩
theorem VecT.out {w : World} {m : Msg} {S : Nat → Prop} (h : VecT w m) (hc : Calm w S) : ∀ ad, m.da = some ad → 0 < m.ds.length → ¬ S ad.block := fun ad h1 h2 hS => by
  obtain ⟨cs, fr, hb⟩ := h ad h1 h2
  exact hc _ hS cs fr hb
theorem got_of {B : Nat} {o : Option Msg} {e : Ending} {w' : World} (h : GetEnd3 B o e w') : ∃ mv, e = .returned (.tuple #[.agg (msgA mv), .bool o.isSome]) ∧ Got B w' o mv := by
  cases o with
  | none => exact ⟨zeroM, h, fun _ => rfl, fun m h => (by cases h), zero_ok w', fun ad h => (by cases h), zero_vec w'⟩
  | some m =>
    obtain ⟨m', h1, h2, h3, h4, h5⟩ := h
    exact ⟨m', h1, fun h => (by cases h), fun x hx => by injection hx with hx; rw [← hx]; exact h2, h3, h4, h5⟩
theorem Got.kept {B : Nat} {w w' : World} {o : Option Msg} {mv : Msg} {S : Nat → Prop} (h : Got B w o mv) (hk : Kept S w w') (hS : ∀ ad, mv.da = some ad → 0 < mv.ds.length → ¬ S ad.block) : Got B w' o mv := ⟨h.1, h.2.1, h.2.2.1.kept hk hS, h.2.2.2.1, h.2.2.2.2.kept hk hS⟩
theorem Got.keptC {B : Nat} {w w' : World} {o : Option Msg} {mv : Msg} {S : Nat → Prop} (h : Got B w o mv) (hk : Kept S w w') (hc : Calm w S) : Got B w' o mv := h.kept hk (h.2.2.2.2.out hc)
theorem Got.below {B : Nat} {w w' : World} {o : Option Msg} {mv : Msg} (h : Got B w o mv) (hb : Below w.heap.size w w') : Got B w' o mv := h.kept (S := fun _ => False) (.of_below hb) (fun _ _ _ h => h)
theorem Got.more {B B' : Nat} {w : World} {o : Option Msg} {mv : Msg} (h : Got B w o mv) (hB : B' ≤ B) : Got B' w o mv := ⟨h.1, h.2.1, h.2.2.1, fun ad h1 h2 => Nat.le_trans hB (h.2.2.2.1 ad h1 h2), h.2.2.2.2⟩
theorem results_cell_two {P : Program} {fn : Func} {p t : Tmp} {ty : TypeId} (h : fn.results = #[.cell p ty, .tmp t]) (tmps : Array Value) (w : World) (g : Nat) (tt : TypeId) (cs : Array Value) (fr : Nat × Nat) (d : TypeDesc) (x : Value)
    (hp : tmps.getD p undef = .pointer (some ⟨g, 0, none⟩)) (ht : tmps.getD t undef = x) (hg : w.heap[g]? = some (.cells cs tt fr))
    (hu : P.underlying ty = some d) (hd : (match d with | .struct _ | .array _ _ => true | _ => false) = true) (hi : (P.info? ty).map (·.size) = some cs.size) :
    (results fn tmps).run P w = .ok (.tuple #[.agg cs, x]) w := by
  have hp' : tmps[p]?.getD undef = .pointer (some ⟨g, 0, none⟩) := by simpa using hp
  have ht' : tmps[t]?.getD undef = x := by simpa using ht
  simp [results, h, hp', ht', asAddr, run_loadVar_row w g tt ty cs fr d hg hu hd hi]
theorem got_back {B : Nat} {w : World} {o : Option Msg} {mv : Msg} (h : Got B w o mv) : GetEnd3 B o (.returned (.tuple #[.agg (msgA mv), .bool o.isSome])) w := by
  cases o with
  | none =>
    rw [h.1 rfl]
    exact rfl
  | some m => exact ⟨mv, rfl, h.2.1 m rfl, h.2.2.1, h.2.2.2.1, h.2.2.2.2⟩
/-- the next one of a process -/
def nextO (O : PO) (p : Nat) : Option Msg := getZ O.lo O.R (p : Int) (O.dn p + 1)
def lessB (m c : Msg) : Bool := decide (keyZ (m.stamp : Int) m.frm (c.stamp : Int) c.frm < 0)
def headStep (O : PO) (b : Option Msg) (p : Nat) : Option Msg := match nextO O p with
  | none => b
  | some m => match b with
    | none => some m
    | some c => if lessB m c = true then some m else b
/-- the first of all -/
def PO.head (O : PO) : Option Msg := (listS O.mb).foldl (headStep O) none
theorem lessB_core {m m' c c' : Msg} (h1 : core m' = core m) (h2 : core c' = core c) : lessB m' c' = lessB m c := by
  have e1 := core_iff.1 h1
  have e2 := core_iff.1 h2
  unfold lessB
  rw [e1.1, e1.2.2.1, e2.1, e2.2.2.1]
/-- while the members are gone through: the answer's block, the best one's block -/
structure HeadSt (w : World) (b1 RB YB : Nat) (o : Option Msg) (bv : Msg) (wr : World) : Prop where
  rb : wr.heap[RB]? = some (.cells (msgA zeroM) 42 (0, 0))
  yb : wr.heap[YB]? = some (.cells (msgA bv) 42 (0, 0))
  got : Got b1 wr o bv
  bel : Below w.heap.size w wr
set_option maxRecDepth 100000 in
set_option maxHeartbeats 16000000 in
theorem orHead_any {w : World} {B D Z : Nat} {O : PO} {V VH : Nat → Value} (h : OrAt w B D Z O V VH) (hk : OrOk O) (hT : Tab w) :
    Calls Tryd.prog 65 #[.pointer (some ⟨B, 0, none⟩)] w fun e w' => GetEnd3 w.heap.size O.head e w' ∧ Below w.heap.size w w' := by
  obtain ⟨zc, hzc⟩ : ∃ z, z = msgA zeroM := ⟨_, rfl⟩
  have hz : ∀ W : World, (zeroValue 42).run Tryd.prog W = .ok (.agg zc) W := fun W => by rw [hzc]; kernel_rfl
  obtain ⟨wa, hwa⟩ : ∃ W, W = w.alloc (.cells zc 42) := ⟨_, rfl⟩
  have hba : Below w.heap.size w wa := by rw [hwa]; exact ba (br w) _
  have hra : wa.heap[w.heap.size]? = some (.cells zc 42 (0, 0)) := by rw [hwa]; exact heap_alloc_new w _
  obtain ⟨wb, hwb⟩ : ∃ W, W = wa.alloc (.cells zc 42) := ⟨_, rfl⟩
  have hbb : Below wa.heap.size wa wb := by rw [hwb]; exact ba (br wa) _
  have hyb : wb.heap[wa.heap.size]? = some (.cells zc 42 (0, 0)) := by rw [hwb]; exact heap_alloc_new wa _
  obtain ⟨RB, hRB⟩ : ∃ x, x = w.heap.size := ⟨_, rfl⟩
  obtain ⟨YB, hYB⟩ : ∃ x, x = wa.heap.size := ⟨_, rfl⟩
  have hsa : wa.heap.size = w.heap.size + 1 := by rw [hwa]; simp
  have hrb : wb.heap[RB]? = some (.cells zc 42 (0, 0)) := by rw [hRB]; exact (hbb.block _ (by omega)).trans hra
  rw [← hYB] at hyb
  have hb := h.below (bt hba hbb)
  have o3 := hb.cmb
  have HL := Lib.hid (setList_any O.mb hk.mb wb (hT.below (bt hba hbb) hT.lt))
  have H0 := Lib.hid (And.intro h (And.intro hk (And.intro hrb (And.intro hyb (And.intro (bt hba hbb) (And.intro hRB (And.intro hYB hsa)))))))
  have HW := Lib.hid (And.intro hwa hwb)
  have HZC := Lib.hid hzc
  clear hra hyb hrb hba hbb hb hwa hwb hRB hYB hsa hT h hk hzc
  go_enter Tryd.func65, Tryd.ntmps65
  go_upto_region 3 with (fail)
  have eY : w.heap.size + 1 = YB := by
    have h1 := H0.out.2.2.2.2.2.2.1
    have h2 := H0.out.2.2.2.2.2.2.2
    omega
  rw [eY, ← H0.out.2.2.2.2.2.1, ← HW.out.1, ← HW.out.2]
  clear eY HW hz
  go_wp2_with fail
  refine HL.out.mono ?_
  rintro e w1 ⟨ad, cap, rfl, ho1, hb1⟩
  obtain ⟨n, hn⟩ : ∃ n, n = (listS O.mb).length := ⟨_, rfl⟩
  have hn64 : n ≤ 64 := by rw [hn]; exact listS_len _
  have HI := Lib.hid (show HeadSt w w1.heap.size RB YB none zeroM w1 from by
    have h1 := H0.out
    have hz0 := HZC.out
    exact ⟨by rw [← hz0]; exact (hb1.block _ (Array.getElem?_eq_some_iff.1 h1.2.2.1).1).trans h1.2.2.1, by rw [← hz0]; exact (hb1.block _ (Array.getElem?_eq_some_iff.1 h1.2.2.2.1).1).trans h1.2.2.2.1, ⟨fun _ => rfl, fun m h => (by cases h), zero_ok w1, fun ad h => (by cases h), zero_vec w1⟩, bt h1.2.2.2.2.1 hb1⟩)
  have H1 := Lib.hid (And.intro (ownMore ho1 H0.out.2.2.2.2.1.size) hn)
  have HR1 := Lib.hid (show YB < w1.heap.size ∧ RB < YB from ⟨Nat.lt_of_lt_of_le (Array.getElem?_eq_some_iff.1 H0.out.2.2.2.1).1 hb1.size, by
    have h1 := H0.out.2.2.2.2.2.2
    have h2 := H0.out.2.2.2.2.2.1
    omega⟩)
  rw [← hn]
  clear ho1 hn HL hb1 o3
  go_upto_block 0 with (fail)
  go_cut [5] (fun s5 wx => s5 = .bool O.head.isSome ∧ Hid (∃ bv, HeadSt w w1.heap.size RB YB O.head bv wx))
  case first =>
    go_wp2_with fail
    go_loopw [5, 16] (fun f i wr => ∃ k : Nat, k ≤ n ∧ i = .int .i64 (k : Int) ∧ f = .bool (((listS O.mb).take k).foldl (headStep O) none).isSome ∧ Hid (∃ bv, HeadSt w w1.heap.size RB YB (((listS O.mb).take k).foldl (headStep O) none) bv wr ∧ Kept (fun b => b = YB) w1 wr)) (fun _ i _ => n - (intOf i).toNat)
    case atStart => exact ⟨0, by omega, rfl, rfl, ⟨zeroM, HI.out, Kept.refl _ _⟩⟩
    case round =>
      obtain ⟨k, hk, rfl, rfl, HWr⟩ := hrel
      obtain ⟨bv, hst, hkw⟩ := HWr.out
      by_cases hlt : k < n
      · have hd : decide ((k : Int) < (n : Int)) = true := by simpa using hlt
        have hi1 : (k : Int) < (n : Int) := by omega
        have hkl : k < (listS O.mb).length := by rw [← H1.out.2]; exact hlt
        obtain ⟨g, cap', hg, hg0, hg1⟩ := H1.out.1.form (by omega)
        injection hg with hga hnn hcc
        clear hnn hcc
        have hgY : g ≠ YB := fun e => by
          obtain ⟨c, fz, hc⟩ := Lib.ownsRow_kind H1.out.1 g (by rw [hga]; rfl)
          have h2 := HI.out.yb
          rw [← e, hc] at h2
          injection h2 with h2
          injection h2 with _ h2 _
          exact absurd h2 (by decide)
        have hcell : wr.cell? ⟨g, k, none⟩ = some (.int .i64 ((listS O.mb)[k] : Int)) := by
          have := H1.out.1.cells (g := g) (by rw [hga]; rfl) k (.int .i64 ((listS O.mb)[k] : Int)) (by unfold natsL; rw [List.getElem?_map, List.getElem?_eq_getElem hkl]; rfl)
          rw [show (⟨g, 0, none⟩ : Addr).add k = ⟨g, k, none⟩ from by unfold Addr.add; split <;> simp_all] at this
          exact (hkw.cell (p := ⟨g, k, none⟩) hg1 hgY).trans this
        have hq : (listS O.mb)[k] < 64 := (mem_listS.1 (List.getElem_mem hkl)).1
        have hr := H0.out.1.below hst.bel
        have hfold : ((listS O.mb).take (k + 1)).foldl (headStep O) none = headStep O (((listS O.mb).take k).foldl (headStep O) none) (listS O.mb)[k] := by
          rw [List.take_succ_eq_append_getElem hkl, List.foldl_append]
          rfl
        generalize (listS O.mb)[k] = q at *
        have hq64 : (q : Int) < 64 := by omega
        generalize ((listS O.mb).take k).foldl (headStep O) none = bo at *
        have HS := Lib.hid (And.intro hst (And.intro hkw (And.intro hfold (And.intro hr (And.intro hq hlt)))))
        have HGet := Lib.hid (show ∀ w', Below wr.heap.size wr w' → Calls Tryd.prog 90 #[.pointer (some ⟨D, 0, none⟩), .int .i64 (q : Int), .int .u32 ((O.dn q + 1 : Nat) : Int)] w' fun e w'' => (∃ mv, e = .returned (.tuple #[.agg (msgA mv), .bool (nextO O q).isSome]) ∧ Got w'.heap.size w'' (nextO O q) mv) ∧ Below w'.heap.size w' w'' from fun w' hb =>
          (hGet_three D O.lo O.R V (q : Int) (O.dn q + 1) w' (hr.below hb).hold H0.out.2.1.bd H0.out.2.1.ds).mono fun e w'' ⟨h1, h2⟩ => by
            obtain ⟨mv, h3, h4⟩ := got_of h1
            exact ⟨⟨mv, h3, h4⟩, h2⟩)
        have hS0 : ∀ w', Below wr.heap.size wr w' → w'.cell? ⟨B, 0, none⟩ = some (.pointer (some ⟨D, 0, none⟩)) ∧ w'.cell? ⟨B, 4 + q, none⟩ = some (.int .u32 (O.dn q : Int)) := fun w' hb => ⟨(hr.below hb).cD, (hr.below hb).cdn hq⟩
        have hw32 : IntKind.u32.wrap ((O.dn q : Int) + 1) = ((O.dn q + 1 : Nat) : Int) := by
          have := H0.out.2.1.dnB q hq
          rw [wrap_u32']
          omega
        have HSS := Lib.hid hS0
        rw [hga]
        clear hkl hga hg0 hgY hst hkw hfold hr hq hlt HWr hg1 hS0
        go_upto_region 6 with (fail)
        go_cut [8, 9] (fun s8 s9 wx => s9 = .bool (nextO O q).isSome ∧ ∃ MB, s8 = .pointer (some ⟨MB, 0, none⟩) ∧ Hid (∃ mv, wr.heap.size ≤ MB ∧ wx.heap[MB]? = some (.cells (msgA mv) 42 (0, 0)) ∧ Got wr.heap.size wx (nextO O q) mv ∧ Below wr.heap.size wr wx))
        case first =>
          have hS0 := HSS.out _ ((br wr).drew)
          have HW0 := Lib.hid ((br wr).drew)
          refine wp_region_mask (fun w' => w'.cell? ⟨B, 0, none⟩ = some (.pointer (some ⟨D, 0, none⟩)) ∧ w'.cell? ⟨B, 4 + q, none⟩ = some (.int .u32 (O.dn q : Int))) 18 7 [true, true, true, true, true, true, true, true, true, true, true, true, false, false, false, false, false, false, false] #[true, true, true, true, true, true, true, true, true, true, true, true, false, false, false, false, false, false, false] (by kernel_rfl) (by kernel_rfl) (by kernel_rfl) hS0 ?_
          clear hS0
          generalize wr.drew = W at *
          iterate 11
            refine wpMask_take _ (Or.inl ⟨by rfl, fun w' hS => by (try dsimp only at hS); obtain ⟨hS1, hS2⟩ := hS; go_simp; try with_reducible rfl⟩) ?_
            simp only [Act.put, List.setIfInBounds_toArray, List.set_cons_zero, List.set_cons_succ]
          refine wpMask_take (.int .u32 ((O.dn q + 1 : Nat) : Int)) (Or.inl ⟨by rfl, fun w' hS => by clear hS; go_simp; try (rw [hw32])⟩) ?_
          simp only [Act.put, List.setIfInBounds_toArray, List.set_cons_zero, List.set_cons_succ]
          refine wpMask_skip (wpMask_skip (wpMask_skip (wpMask_skip (wpMask_skip (wpMask_skip (wpMask_skip (wpMask_nil ?_)))))))
          obtain ⟨d1, hd1⟩ : ∃ d : Nat, d = O.dn q + 1 := ⟨_, rfl⟩
          rw [← hd1] at HGet ⊢
          clear hd1 hw32
          refine wpAnyS_ready (rs := [12, 16]) (by kernel_rfl) (by simp) ?_
          refine AllReadyS.cons rfl (fun T hT => ?_) (AllReadyS.cons rfl (fun T hT => ?_) AllReadyS.nil)
          rotate_left
          -- the variable first
          go_simp
          obtain ⟨W1, hW1⟩ : ∃ W1, W1 = W.alloc (.cells #[.int .i64 0, .int .u32 0, .int .u64 0, .int .i64 0, .slice none 0 0, .string ⟨#[]⟩] 42) := ⟨_, rfl⟩
          have hb1 : Below W.heap.size W W1 := by rw [hW1]; exact ba (br W) _
          have HN1 := Lib.hid (show W1.heap[W.heap.size]? = some (.cells #[.int .i64 0, .int .u32 0, .int .u64 0, .int .i64 0, .slice none 0 0, .string ⟨#[]⟩] 42 (0, 0)) from by rw [hW1]; exact heap_alloc_new W _)
          have HB1 := Lib.hid (bt HW0.out hb1)
          rw [← hW1]
          clear hW1 hb1
          obtain ⟨N, hN⟩ : ∃ N, N = W.heap.size := ⟨_, rfl⟩
          rw [← hN] at HN1 ⊢
          have HNN := Lib.hid hN
          clear hN
          refine hT.out _ _ (fun _ => HSS.out _ HB1.out) ?_
          clear hT T
          simp only [Act.put, List.getElem_toArray, List.getElem_cons_succ, List.getElem_cons_zero, List.setIfInBounds_toArray, List.set_cons_zero, List.set_cons_succ]
          refine wpAnyS_ready (rs := [12]) (by kernel_rfl) (by simp) ?_
          refine AllReadyS.cons rfl (fun T hT => ?_) AllReadyS.nil
          go_simp
          refine (HGet.out W1 HB1.out).mono ?_
          rintro e W2 ⟨⟨mv, rfl, hgot⟩, hb2⟩
          obtain ⟨cx, hcx⟩ : ∃ cx, cx = msgA mv := ⟨_, rfl⟩
          rw [← hcx]
          have HC := Lib.hid (And.intro hcx (And.intro hgot hb2))
          have HB2 := Lib.hid (bt HB1.out hb2)
          clear hcx hgot hb2
          refine hT.out _ _ (fun _ => HSS.out _ HB2.out) ?_
          clear hT T
          simp only [Act.put, List.getElem_toArray, List.getElem_cons_succ, List.getElem_cons_zero, List.setIfInBounds_toArray, List.set_cons_zero, List.set_cons_succ]
          refine wpAnyS_take (i := 13) _ rfl (by kernel_rfl) (Or.inl ⟨by rfl, fun w' hS => by (try dsimp only at hS); go_simp; try with_reducible rfl⟩) (HSS.out W2 HB2.out) ?_
          simp only [Act.put, List.getElem_toArray, List.getElem_cons_succ, List.getElem_cons_zero, List.setIfInBounds_toArray, List.set_cons_zero, List.set_cons_succ]
          refine wpAnyS_take (i := 14) _ rfl (by kernel_rfl) (Or.inl ⟨by rfl, fun w' hS => by (try dsimp only at hS); go_simp; try with_reducible rfl⟩) (HSS.out W2 HB2.out) ?_
          simp only [Act.put, List.getElem_toArray, List.getElem_cons_succ, List.getElem_cons_zero, List.setIfInBounds_toArray, List.set_cons_zero, List.set_cons_succ]
          refine wpAnyS_take (i := 15) _ rfl (by kernel_rfl) (Or.inl ⟨by rfl, fun w' hS => by (try dsimp only at hS); go_simp; try with_reducible rfl⟩) (HSS.out W2 HB2.out) ?_
          simp only [Act.put, List.getElem_toArray, List.getElem_cons_succ, List.getElem_cons_zero, List.setIfInBounds_toArray, List.set_cons_zero, List.set_cons_succ]
          have HNB := Lib.hid ((HC.out.2.2.block N (Array.getElem?_eq_some_iff.1 HN1.out).1).trans HN1.out)
          have HE := Lib.hid (show Hid (∃ mv, wr.heap.size ≤ N ∧ (W2.setRow N cx).heap[N]? = some (.cells (msgA mv) 42 (0, 0)) ∧ Got wr.heap.size (W2.setRow N cx) (nextO O q) mv ∧ Below wr.heap.size wr (W2.setRow N cx)) from by
            have hwn : wr.heap.size ≤ N := by rw [HNN.out]; exact HW0.out.size
            have hks := kept_setRowT W2 N cx
            have hbw : Below wr.heap.size wr (W2.setRow N cx) := hks.out HB2.out HB2.out.size (fun k hk' e => by omega)
            have hB1 := HB1.out.size
            have hN1 : N < W1.heap.size := (Array.getElem?_eq_some_iff.1 HN1.out).1
            refine ⟨mv, hwn, ?_, (HC.out.2.1.kept hks (fun ad h1 h2 e => ?_)).more hB1, hbw⟩
            · rw [← HC.out.1]
              exact setRow_heap _ _ _ _ _ _ HNB.out
            · have := HC.out.2.1.2.2.2.1 ad h1 h2
              omega)
          have HBF := Lib.hid (show Below wr.heap.size wr (W2.setRow N cx) from by obtain ⟨_, _, _, _, h⟩ := HE.out; exact h)
          refine wpAnyS_ready (rs := [17]) (by kernel_rfl) (by simp) ?_
          refine AllReadyS.cons rfl (fun T hT => ?_) AllReadyS.nil
          refine wp_store_row 42 (.tmp 8) (.tmp 34) rfl N cx rfl rfl 42 _ HNB.out (by rw [HC.out.1]; exact szM) (by rw [HC.out.1]; rfl) (by rw [HC.out.1]; exact enM_all mv) ?_
          refine hT.out _ _ (fun _ => HSS.out _ HBF.out) ?_
          clear hT T
          simp only [Act.put, List.getElem_toArray, List.getElem_cons_succ, List.getElem_cons_zero, List.setIfInBounds_toArray, List.set_cons_zero, List.set_cons_succ]
          refine wpAnyS_ready (rs := [18]) (by kernel_rfl) (by simp) ?_
          refine AllReadyS.cons rfl (fun T hT => ?_) AllReadyS.nil
          go_simp
          refine hT.out _ _ (fun h => absurd h (by decide)) ?_
          clear hT T
          simp only [Act.put, List.getElem_toArray, List.getElem_cons_succ, List.getElem_cons_zero, List.setIfInBounds_toArray, List.set_cons_zero, List.set_cons_succ]
          refine wpAnyS_done (by kernel_rfl) ?_ _
          go_wp2_with fail
          go_meet
          exact ⟨rfl, _, rfl, HE.out⟩
          go_simp
          refine (HGet.out W HW0.out).mono ?_
          rintro e W2 ⟨⟨mv, rfl, hgot⟩, hb2⟩
          obtain ⟨cx, hcx⟩ : ∃ cx, cx = msgA mv := ⟨_, rfl⟩
          rw [← hcx]
          have HC := Lib.hid (And.intro hcx (And.intro hgot hb2))
          have HB2 := Lib.hid (bt HW0.out hb2)
          clear hcx hgot hb2
          refine hT.out _ _ (fun _ => HSS.out _ HB2.out) ?_
          clear hT T
          simp only [Act.put, List.getElem_toArray, List.getElem_cons_succ, List.getElem_cons_zero, List.setIfInBounds_toArray, List.set_cons_zero, List.set_cons_succ]
          refine wpAnyS_take (i := 13) _ rfl (by kernel_rfl) (Or.inl ⟨by rfl, fun w' hS => by (try dsimp only at hS); go_simp; try with_reducible rfl⟩) (HSS.out W2 HB2.out) ?_
          simp only [Act.put, List.getElem_toArray, List.getElem_cons_succ, List.getElem_cons_zero, List.setIfInBounds_toArray, List.set_cons_zero, List.set_cons_succ]
          refine wpAnyS_take (i := 14) _ rfl (by kernel_rfl) (Or.inl ⟨by rfl, fun w' hS => by (try dsimp only at hS); go_simp; try with_reducible rfl⟩) (HSS.out W2 HB2.out) ?_
          simp only [Act.put, List.getElem_toArray, List.getElem_cons_succ, List.getElem_cons_zero, List.setIfInBounds_toArray, List.set_cons_zero, List.set_cons_succ]
          refine wpAnyS_take (i := 15) _ rfl (by kernel_rfl) (Or.inl ⟨by rfl, fun w' hS => by (try dsimp only at hS); go_simp; try with_reducible rfl⟩) (HSS.out W2 HB2.out) ?_
          simp only [Act.put, List.getElem_toArray, List.getElem_cons_succ, List.getElem_cons_zero, List.setIfInBounds_toArray, List.set_cons_zero, List.set_cons_succ]
          refine wpAnyS_ready (rs := [16]) (by kernel_rfl) (by simp) ?_
          refine AllReadyS.cons rfl (fun T hT => ?_) AllReadyS.nil
          go_simp
          obtain ⟨W3, hW3⟩ : ∃ W3, W3 = W2.alloc (.cells #[.int .i64 0, .int .u32 0, .int .u64 0, .int .i64 0, .slice none 0 0, .string ⟨#[]⟩] 42) := ⟨_, rfl⟩
          have hb3 : Below W2.heap.size W2 W3 := by rw [hW3]; exact ba (br W2) _
          have HNB := Lib.hid (show W3.heap[W2.heap.size]? = some (.cells #[.int .i64 0, .int .u32 0, .int .u64 0, .int .i64 0, .slice none 0 0, .string ⟨#[]⟩] 42 (0, 0)) from by rw [hW3]; exact heap_alloc_new W2 _)
          have HB3 := Lib.hid (bt HB2.out hb3)
          have HB23 := Lib.hid hb3
          rw [← hW3]
          clear hW3 hb3
          obtain ⟨N, hN⟩ : ∃ N, N = W2.heap.size := ⟨_, rfl⟩
          rw [← hN] at HNB ⊢
          have HNN := Lib.hid hN
          clear hN
          refine hT.out _ _ (fun _ => HSS.out _ HB3.out) ?_
          clear hT T
          simp only [Act.put, List.getElem_toArray, List.getElem_cons_succ, List.getElem_cons_zero, List.setIfInBounds_toArray, List.set_cons_zero, List.set_cons_succ]
          have HE := Lib.hid (show Hid (∃ mv, wr.heap.size ≤ N ∧ (W3.setRow N cx).heap[N]? = some (.cells (msgA mv) 42 (0, 0)) ∧ Got wr.heap.size (W3.setRow N cx) (nextO O q) mv ∧ Below wr.heap.size wr (W3.setRow N cx)) from by
            have hwn : wr.heap.size ≤ N := by rw [HNN.out]; exact HB2.out.size
            have hks := kept_setRowT W3 N cx
            have hbw : Below wr.heap.size wr (W3.setRow N cx) := hks.out HB3.out HB3.out.size (fun k hk' e => by omega)
            refine ⟨mv, hwn, ?_, ((HC.out.2.1.below HB23.out).kept hks (fun ad h1 h2 e => ?_)).more HW0.out.size, hbw⟩
            · rw [← HC.out.1]
              exact setRow_heap _ _ _ _ _ _ HNB.out
            · obtain ⟨B', O', e', hB', _⟩ := HC.out.2.1.2.2.1.2.2.2.2 0 h2
              rw [h1] at e'
              injection e' with e'
              rw [e'] at e
              have := HNN.out
              have e : B' = N := e
              omega)
          have HBF := Lib.hid (show Below wr.heap.size wr (W3.setRow N cx) from by obtain ⟨_, _, _, _, h⟩ := HE.out; exact h)
          refine wpAnyS_ready (rs := [17]) (by kernel_rfl) (by simp) ?_
          refine AllReadyS.cons rfl (fun T hT => ?_) AllReadyS.nil
          refine wp_store_row 42 (.tmp 8) (.tmp 34) rfl N cx rfl rfl 42 _ HNB.out (by rw [HC.out.1]; exact szM) (by rw [HC.out.1]; rfl) (by rw [HC.out.1]; exact enM_all mv) ?_
          refine hT.out _ _ (fun _ => HSS.out _ HBF.out) ?_
          clear hT T
          simp only [Act.put, List.getElem_toArray, List.getElem_cons_succ, List.getElem_cons_zero, List.setIfInBounds_toArray, List.set_cons_zero, List.set_cons_succ]
          refine wpAnyS_ready (rs := [18]) (by kernel_rfl) (by simp) ?_
          refine AllReadyS.cons rfl (fun T hT => ?_) AllReadyS.nil
          go_simp
          refine hT.out _ _ (fun h => absurd h (by decide)) ?_
          clear hT T
          simp only [Act.put, List.getElem_toArray, List.getElem_cons_succ, List.getElem_cons_zero, List.setIfInBounds_toArray, List.set_cons_zero, List.set_cons_succ]
          refine wpAnyS_done (by kernel_rfl) ?_ _
          go_wp2_with fail
          go_meet
          exact ⟨rfl, _, rfl, HE.out⟩
        case rest =>
        obtain ⟨rfl, MB, rfl, HM⟩ := hcut
        obtain ⟨mv, hwM, hmb, hgot, hb4⟩ := HM.out
        obtain ⟨w4, rfl⟩ : ∃ z, z = wc := ⟨_, rfl⟩
        have hyb : w4.heap[YB]? = some (.cells (msgA bv) 42 (0, 0)) := (hb4.block _ (Array.getElem?_eq_some_iff.1 HS.out.1.yb).1).trans HS.out.1.yb
        obtain ⟨tk, htk⟩ : ∃ tk : Bool, tk = (match nextO O q with | none => false | some m => match bo with | none => true | some c => lessB m c) := ⟨_, rfl⟩
        have HTK := Lib.hid htk
        have H4 := Lib.hid (And.intro hwM (And.intro hmb (And.intro hgot (And.intro hb4 hyb))))
        have R1 := Lib.hid (show ∀ w', (∃ x : Bel w4, w' = x.val) → w'.rangeAt MB 0 (msgA mv).toList from Bel.range (fun j u hu => by rw [Nat.zero_add]; exact (cell_of_row _ _ j _ _ _ hmb).trans (by simpa using hu)) (Array.getElem?_eq_some_iff.1 hmb).1)
        have R2 := Lib.hid (show ∀ w', (∃ x : Bel w4, w' = x.val) → w'.rangeAt YB 0 (msgA bv).toList from Bel.range (fun j u hu => by rw [Nat.zero_add]; exact (cell_of_row _ _ j _ _ _ hyb).trans (by simpa using hu)) (Array.getElem?_eq_some_iff.1 hyb).1)
        have HO1 := Lib.hid (fun W => kOf_any mv W)
        have HO2 := Lib.hid (fun W => kOf_any bv W)
        have HCM := Lib.hid (fun W => kCmp_any (mv.stamp : Int) mv.frm (bv.stamp : Int) bv.frm W)
        have HKZ := Lib.hid (show ∀ m c, nextO O q = some m → bo = some c → lessB m c = decide (keyZ (mv.stamp : Int) mv.frm (bv.stamp : Int) bv.frm < 0) from fun m c h1 h2 => by
          rw [← lessB_core (hgot.2.1 m h1) (HS.out.1.got.2.1 c h2)]
          rfl)
        clear htk hwM hmb hgot hb4 hyb HM HGet
        obtain ⟨ok, hok⟩ : ∃ x, x = (nextO O q).isSome := ⟨_, rfl⟩
        obtain ⟨fb, hfb⟩ : ∃ x, x = bo.isSome := ⟨_, rfl⟩
        rw [← hok, ← hfb]
        have HOK := Lib.hid (And.intro hok hfb)
        clear hok hfb
        go_upto_region 7 with (fail)
        go_cut [48] (fun s48 wx => s48 = .bool tk ∧ Hid (Below w4.heap.size w4 wx))
        case first =>
          have HT3 := Lib.hid (show (ok = false → tk = false) ∧ (ok = true → fb = false → tk = true) ∧ (ok = true → fb = true → tk = decide (keyZ (mv.stamp : Int) mv.frm (bv.stamp : Int) bv.frm < 0)) from by
            have h1 := HOK.out.1
            have h2 := HOK.out.2
            have h3 := HTK.out
            cases hno : nextO O q with
            | none => rw [hno] at h1 h3; exact ⟨fun _ => h3, fun e => (by rw [h1] at e; cases e), fun e => (by rw [h1] at e; cases e)⟩
            | some m =>
              rw [hno] at h1 h3
              refine ⟨fun e => (by rw [h1] at e; cases e), fun _ e => ?_, fun _ e => ?_⟩
              · rw [e] at h2
                cases bo with
                | none => exact h3
                | some c => cases h2
              · rw [e] at h2
                cases bo with
                | none => cases h2
                | some c =>
                  rw [h3]
                  exact HKZ.out m c hno rfl)
          clear HTK HKZ HOK
          cases ok
          · have htk : tk = false := HT3.out.1 rfl
            subst htk
            refine wp_region_bel (by kernel_rfl) (by kernel_rfl) ?_
            repeat (go_big_quiet_step ((fail)))
            refine wpQuiet_nil ?_
            intro w5 hw5
            have HB5 := Lib.hid (bel_out hw5)
            clear hw5
            go_wp2_with fail
            go_meet
            exact ⟨rfl, HB5⟩
          · cases fb
            · have htk : tk = true := HT3.out.2.1 rfl rfl
              subst htk
              refine wp_region_bel (by kernel_rfl) (by kernel_rfl) ?_
              repeat (go_big_quiet_step ((fail)))
              refine wpQuiet_nil ?_
              intro w5 hw5
              have HB5 := Lib.hid (bel_out hw5)
              clear hw5
              go_wp2_with fail
              go_meet
              exact ⟨rfl, HB5⟩
            · have htk : tk = decide (keyZ (mv.stamp : Int) mv.frm (bv.stamp : Int) bv.frm < 0) := HT3.out.2.2 rfl rfl
              have HTE := Lib.hid htk
              clear htk HT3
              generalize keyZ (mv.stamp : Int) mv.frm (bv.stamp : Int) bv.frm = kz at *
              refine wp_region_bel (by kernel_rfl) (by kernel_rfl) ?_
              iterate 5 (go_big_quiet_step ((fail)))
              refine wpQuiet_load_want (by rfl) 42 (.tmp 8) rfl MB 0 rfl (msgA mv).toList _ R1.out Tryd.underlying42 rfl (by kernel_rfl) ?_
              go_simp
              go_big_quiet_step ((go_at_call 14; with_reducible exact bel_call (HO1.out _)))
              refine wpQuiet_load_want (by rfl) 42 (.tmp 4) rfl YB 0 rfl (msgA bv).toList _ R2.out Tryd.underlying42 rfl (by kernel_rfl) ?_
              go_simp
              go_big_quiet_step ((go_at_call 14; with_reducible exact bel_call (HO2.out _)))
              repeat (go_big_quiet_step ((go_at_call 13; with_reducible exact bel_call (HCM.out _))))
              refine wpQuiet_nil ?_
              intro x5
              have HB5 := Lib.hid x5.prop
              generalize x5.val = w5 at *
              go_wp2_with fail
              go_meet
              exact ⟨by rw [HTE.out], HB5⟩
        case rest =>
        obtain ⟨rfl, HB5⟩ := hcut
        obtain ⟨w5, rfl⟩ : ∃ z, z = wc := ⟨_, rfl⟩
        have hmb5 : w5.heap[MB]? = some (.cells (msgA mv) 42 (0, 0)) := (HB5.out.block _ (Array.getElem?_eq_some_iff.1 H4.out.2.1).1).trans H4.out.2.1
        have hyb5 : w5.heap[YB]? = some (.cells (msgA bv) 42 (0, 0)) := (HB5.out.block _ (Array.getElem?_eq_some_iff.1 H4.out.2.2.2.2).1).trans H4.out.2.2.2.2
        have hb45 : Below wr.heap.size wr w5 := bt H4.out.2.2.2.1 HB5.out
        have hst5 : HeadSt w w1.heap.size RB YB bo bv w5 := ⟨(hb45.block _ (Array.getElem?_eq_some_iff.1 HS.out.1.rb).1).trans HS.out.1.rb, hyb5, HS.out.1.got.below hb45, bt HS.out.1.bel hb45⟩
        cases tk
        · have HE := Lib.hid (show Hid (∃ bv, HeadSt w w1.heap.size RB YB (((listS O.mb).take (k + 1)).foldl (headStep O) none) bv w5 ∧ Kept (fun b => b = YB) w1 w5) ∧ fb = (((listS O.mb).take (k + 1)).foldl (headStep O) none).isSome from by
            have e : headStep O bo q = bo := by
              have h3 := HTK.out
              unfold headStep
              cases hno : nextO O q with
              | none => rfl
              | some m =>
                rw [hno] at h3
                cases bo with
                | none => cases h3
                | some c =>
                  have h3 : false = lessB m c := h3
                  simp only
                  rw [← h3]
                  rfl
            rw [HS.out.2.2.1, e]
            exact ⟨⟨bv, hst5, HS.out.2.1.trans (Kept.of_below hb45)⟩, HOK.out.2⟩)
          have HK := Lib.hid HS.out.2.2.2.2.2
          clear hmb5 hyb5 hb45 hst5 HS H4 HTK HOK R1 R2 HO1 HO2 HCM HKZ HSS
          go_wp2_with fail
          exact ⟨⟨k + 1, HK.out, by go_num, by rw [HE.out.2], HE.out.1⟩, by have := HK.out; simp [intOf]; omega⟩
        · obtain ⟨w6, hw6⟩ : ∃ w6, w6 = w5.setRow YB (msgA mv) := ⟨_, rfl⟩
          have hks : Kept (fun b => b = YB) w5 w6 := by rw [hw6]; exact kept_setRowT _ _ _
          have HE := Lib.hid (show Hid (∃ bv, HeadSt w w1.heap.size RB YB (((listS O.mb).take (k + 1)).foldl (headStep O) none) bv w6 ∧ Kept (fun b => b = YB) w1 w6) ∧ (((listS O.mb).take (k + 1)).foldl (headStep O) none).isSome = true from by
            obtain ⟨m, hno, e⟩ : ∃ m, nextO O q = some m ∧ headStep O bo q = some m := by
              have h3 := HTK.out
              unfold headStep
              cases hno : nextO O q with
              | none => rw [hno] at h3; cases h3
              | some m =>
                refine ⟨m, rfl, ?_⟩
                rw [hno] at h3
                cases bo with
                | none => rfl
                | some c =>
                  have h3 : true = lessB m c := h3
                  simp only
                  rw [← h3]
                  rfl
            rw [HS.out.2.2.1, e]
            have hwr : w1.heap.size ≤ wr.heap.size := HS.out.2.1.size
            have hYl := HR1.out.1
            refine ⟨⟨mv, ⟨hks.keep hst5.rb (fun e => by have := HR1.out.2; omega), ?_, ?_, ?_⟩, (HS.out.2.1.trans (Kept.of_below hb45)).trans hks⟩, rfl⟩
            · rw [hw6]
              exact setRow_heap _ _ _ _ _ _ hyb5
            · have hg := (((H4.out.2.2.1.below HB5.out).kept hks (fun ad h1 h2 e => by
                have := H4.out.2.2.1.2.2.2.1 ad h1 h2
                omega)).more hwr)
              rw [hno] at hg
              exact hg
            · exact hks.out hst5.bel hst5.bel.size (fun k hk' e => by
                have h1 := H0.out.2.2.2.2.2.1
                have := HR1.out.2
                omega))
          have HK := Lib.hid HS.out.2.2.2.2.2
          obtain ⟨cx, hcx⟩ : ∃ cx, cx = msgA mv := ⟨_, rfl⟩
          obtain ⟨cy, hcy⟩ : ∃ cy, cy = msgA bv := ⟨_, rfl⟩
          have HCX := Lib.hid (show (Tryd.prog.info? 42).map (·.size) = some cx.size ∧ cy.size = cx.size ∧ cx.all (·.oneCell') = true from by rw [hcx, hcy]; exact ⟨szM, rfl, enM_all mv⟩)
          rw [← hcx] at hmb5 hw6
          rw [← hcy] at hyb5
          have H5 := Lib.hid (And.intro hmb5 hyb5)
          have HW6 := Lib.hid hw6
          clear hmb5 hyb5 hb45 hst5 HS H4 HTK HOK R1 R2 HO1 HO2 HCM HKZ HSS hw6 hks hcx hcy
          go_wp2_with (first
            | (with_reducible refine wpList_load_row rfl 42 (.tmp 8) rfl MB rfl 42 cx (0, 0) _ H5.out.1 Tryd.underlying42 rfl HCX.out.1 ?_)
            | (with_reducible refine wpList_store_row rfl 42 (.tmp 4) (.tmp 49) rfl YB cx rfl rfl 42 _ H5.out.2 HCX.out.1 HCX.out.2.1 HCX.out.2.2 ?_)
            | fail)
          rw [← HW6.out]
          exact ⟨⟨k + 1, HK.out, by go_num, by rw [HE.out.2], HE.out.1⟩, by have := HK.out; simp [intOf]; omega⟩
      · have hd : decide ((k : Int) < (n : Int)) = false := by simpa using hlt
        obtain rfl : k = n := by omega
        have HE := Lib.hid (show O.head = ((listS O.mb).take k).foldl (headStep O) none ∧ Hid (∃ bv, HeadSt w w1.heap.size RB YB O.head bv wr) from by
          have e : (listS O.mb).take k = listS O.mb := by rw [H1.out.2, List.take_length]
          rw [e] at hst ⊢
          exact ⟨rfl, ⟨bv, hst⟩⟩)
        clear hst hkw HWr
        go_wp2_with fail
        go_meet
        exact ⟨by rw [HE.out.1], HE.out.2⟩
  case rest =>
  obtain ⟨rfl, HE⟩ := hcut
  obtain ⟨bv, hst⟩ := HE.out
  have hs1 : w.heap.size ≤ w1.heap.size := H1.out.1 |> fun _ => HI.out.bel.size
  obtain ⟨w6, hw6⟩ : ∃ w6, w6 = wc.setRow RB (msgA bv) := ⟨_, rfl⟩
  have hks : Kept (fun b => b = RB) wc w6 := by rw [hw6]; exact kept_setRowT _ _ _
  have HF := Lib.hid (show w6.heap[RB]? = some (.cells (msgA bv) 42 (0, 0)) ∧ GetEnd3 w.heap.size O.head (.returned (.tuple #[.agg (msgA bv), .bool O.head.isSome])) w6 ∧ Below w.heap.size w w6 from by
    refine ⟨by rw [hw6]; exact setRow_heap _ _ _ _ _ _ hst.rb, got_back ((hst.got.kept hks (fun ad h1 h2 e => ?_)).more hs1), hks.out hst.bel hst.bel.size (fun k hk' e => by
      have h1 := H0.out.2.2.2.2.2.1
      omega)⟩
    have h3 := hst.got.2.2.2.1 ad h1 h2
    have h4 := HR1.out
    omega)
  obtain ⟨cx, hcx⟩ : ∃ cx, cx = msgA bv := ⟨_, rfl⟩
  obtain ⟨cz, hcz⟩ : ∃ cz, cz = msgA zeroM := ⟨_, rfl⟩
  have HCX := Lib.hid (show (Tryd.prog.info? 42).map (·.size) = some cx.size ∧ cz.size = cx.size ∧ cx.all (·.oneCell') = true from by rw [hcx, hcz]; exact ⟨szM, rfl, enM_all bv⟩)
  have hrb := hst.rb
  have hyb := hst.yb
  rw [← hcx] at hw6 HF hyb
  rw [← hcz] at hrb
  have H5 := Lib.hid (And.intro hrb hyb)
  have HW6 := Lib.hid hw6
  obtain ⟨fo, hfo⟩ : ∃ fo, fo = O.head.isSome := ⟨_, rfl⟩
  rw [← hfo] at HF ⊢
  clear hw6 hks hcx hcz hrb hyb hst hs1 HE HI H1 HR1 H0 hfo
  go_wp2_with (first
    | (with_reducible refine wpList_load_row rfl 42 (.tmp 4) rfl YB rfl 42 cx (0, 0) _ H5.out.2 Tryd.underlying42 rfl HCX.out.1 ?_)
    | (with_reducible refine wpList_store_row rfl 42 (.tmp 2) (.tmp 51) rfl RB cx rfl rfl 42 _ H5.out.1 HCX.out.1 HCX.out.2.1 HCX.out.2.2 ?_)
    | fail)
  rw [← HW6.out]
  refine bodyPost_ret (results_cell_two Tryd.results65 _ _ RB 42 cx (0, 0) _ (.bool fo) rfl rfl HF.out.1 Tryd.underlying42 rfl HCX.out.1) rfl HF.out.2
end Go.Proofs.YtgjlcjbmcnofiaaDoor
