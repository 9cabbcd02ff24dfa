/-
  What a body's reader reads of a message.
  Conditions: those that each theorem names.
-/
import Derived.Test.YtgpojbmloielmaaReadC
namespace Go.Proofs.Ytgpojbmloielmaa
set_option linter.unusedVariables false
set_option linter.unusedSimpArgs false
open Go.RowKit
def andR {α β : Type} (r : Except Int (α × List UInt8)) (f : α → List UInt8 → Except Int (β × List UInt8)) : Except Int (β × List UInt8) := match r with
  | .error c => .error c
  | .ok x => f x.1 x.2
theorem andR_ok {α β : Type} {r : Except Int (α × List UInt8)} {a : α} {l : List UInt8} (h : r = .ok (a, l)) (f : α → List UInt8 → Except Int (β × List UInt8)) : andR r f = f a l := by subst h; rfl
theorem andR_err {α β : Type} {r : Except Int (α × List UInt8)} {c : Int} (h : r = .error c) (f : α → List UInt8 → Except Int (β × List UInt8)) : andR r f = .error c := by subst h; rfl
/-- some bytes of text -/
def rdT (n : Nat) (l : List UInt8) : Except Int (ByteArray × List UInt8) := if n ≤ l.length then .ok (⟨(l.take n).toArray⟩, l.drop n) else .error 2
theorem bytes_cut (s : ByteArray) (p n : Nat) : (s.extract p (p + n)).data.toList = (s.data.toList.drop p).take n := by
  rw [ByteArray.data_extract]
  simp
theorem text_rd {w : World} {R : Nat} {s : ByteArray} {l : List UInt8} (h : RdL w R s l) (n : Nat) :
    Calls Try.prog 41 #[.pointer (some ⟨R, 0, none⟩), .int .i64 (n : Int)] w fun e w' => RdEnd R s w ((rdT n l).map fun x => (.string x.1, x.2)) e w' := by
  obtain ⟨p, hr, hp, rfl, hs⟩ := h
  have hlen : (s.data.toList.drop p).length = s.size - p := by rw [List.length_drop]; rfl
  unfold rdT
  by_cases hpn : p + n ≤ s.size
  · rw [if_pos (by rw [hlen]; omega)]
    refine (Text_any R s p n w hr (by omega) hpn).mono ?_
    rintro e w' ⟨rfl, hst⟩
    refine ⟨?_, ⟨p + n, hst.1, hpn, by rw [List.drop_drop], hs⟩, KR.of_grown hst.2⟩
    congr 2
    apply ByteArray.ext
    apply Array.ext'
    exact bytes_cut s p n
  · rw [if_neg (by rw [hlen]; omega)]
    exact Text_short R s p n w hr (by omega) hp (by omega)
def rdMsg3 (frm : Int) (seq st sv : Nat) (ds : List Nat) (l : List UInt8) : Except Int (Msg × List UInt8) :=
  andR (rdN 2 l) fun n l => if 1024 < n then .error 3 else andR (rdT n l) fun b l => .ok (⟨frm, seq, st, sv, ds, b, none, 0⟩, l)
def rdMsg2 (frm : Int) (seq st sv : Nat) (l : List UInt8) : Except Int (Msg × List UInt8) :=
  if 2 < sv then .error 1 else andR (rdVec l) fun ds l => rdMsg3 frm seq st sv ds l
def rdMsg (frm : Int) (l : List UInt8) : Except Int (Msg × List UInt8) :=
  andR (rdN 4 l) fun seq l => andR (rdN 8 l) fun st l => andR (rdN 1 l) fun sv l => rdMsg2 frm seq st sv l
def MsgEnd (R : Nat) (s : ByteArray) (w : World) (r : Except Int (Msg × List UInt8)) (e : Ending) (w' : World) : Prop := match r with
  | .ok x => (∃ da dc, e = .returned (.agg (msgA { x.1 with da := da, dc := dc })) ∧ OwnN w.heap.size w' da x.1.ds dc) ∧ RdL w' R s x.2 ∧ KR R w w'
  | .error c => e = .panicked (panL c) ∧ KR R w w'
theorem msgErr {R : Nat} {s : ByteArray} {w w' : World} {r : Except Int (Msg × List UInt8)} {c : Int} (hr : r = .error c) (hk : KR R w w') : MsgEnd R s w r (.panicked (panL c)) w' := by subst hr; exact ⟨rfl, hk⟩
theorem KR.above {R : Nat} {w w1 w2 : World} {S : Nat → Prop} (h : KR R w w1) (hk : Kept S w1 w2) (hs : ∀ k, S k → w.heap.size ≤ k) : KR R w w2 :=
  ⟨hk.os.trans h.os, hk.tape.trans h.tape, hk.output.trans h.output, Nat.le_trans h.size hk.size, fun i hi hne => (hk.block i (Nat.lt_of_lt_of_le hi h.size) (fun e => by have := hs i e; omega)).trans (h.block i hi hne)⟩
theorem keptS (w : World) (p : Addr) (v : Value) : Kept (fun b => b = p.block) w (w.setCell p v) := (show Kept (fun b => b = p.block) w w from .refl _ _).setCell rfl _
theorem kept_setRow' (w : World) (M : Nat) (cs : Array Value) : Kept (fun b => b = M) w (w.setRow M cs) := ⟨rfl, rfl, rfl, by rw [size_setRow]; exact Nat.le_refl _, fun i _ hs => setRow_other _ _ _ _ hs⟩
set_option maxRecDepth 100000 in
set_option maxHeartbeats 16000000 in
theorem msg_rd {w : World} {R : Nat} {s : ByteArray} {l0 : List UInt8} (h : RdL w R s l0) (frm : Int) :
    Calls Try.prog 46 #[.agg #[.pointer (some ⟨R, 0, none⟩)], .int .i64 frm] w fun e w' => MsgEnd R s w (rdMsg frm l0) e w' := by
  obtain ⟨N, hN⟩ : ∃ N, N = w.heap.size := ⟨_, rfl⟩
  obtain ⟨W, hW⟩ : ∃ W, W = (w.alloc (.cells #[.pointer (some ⟨R, 0, none⟩)] 63)).alloc (.cells #[.int .i64 0, .int .u32 0, .int .u64 0, .int .i64 0, .slice none 0 0, .string ⟨#[]⟩] 32) := ⟨_, rfl⟩
  have hb1 := ba (br w) (.cells #[.pointer (some ⟨R, 0, none⟩)] 63)
  have hb2 := ba (br (w.alloc (.cells #[.pointer (some ⟨R, 0, none⟩)] 63))) (.cells #[.int .i64 0, .int .u32 0, .int .u64 0, .int .i64 0, .slice none 0 0, .string ⟨#[]⟩] 32)
  have n1 := (hb2.block w.heap.size (by simp)).trans (heap_alloc_new w (.cells #[.pointer (some ⟨R, 0, none⟩)] 63))
  have n2 := heap_alloc_new (w.alloc (.cells #[.pointer (some ⟨R, 0, none⟩)] 63)) (.cells #[.int .i64 0, .int .u32 0, .int .u64 0, .int .i64 0, .slice none 0 0, .string ⟨#[]⟩] 32)
  rw [show (w.alloc (.cells #[.pointer (some ⟨R, 0, none⟩)] 63)).heap.size = w.heap.size + 1 by simp] at n2
  have hbA := bt hb1 hb2
  rw [← hW] at n1 n2 hbA
  rw [← hN] at n1 n2
  have HNR := Lib.hid (show N ≠ R ∧ N + 1 ≠ R ∧ R < N ∧ N = w.heap.size from ⟨by have := h.lt; omega, by have := h.lt; omega, by have := h.lt; omega, hN⟩)
  have c0 : W.cell? ⟨N, 0, none⟩ = some (.pointer (some ⟨R, 0, none⟩)) := cell_of_row _ _ 0 _ _ _ n1
  have hb0 : Below W.heap.size W W.drew := (br W).drew
  have hl := (h.below hbA).below hb0
  have HLV := Lib.hid hl
  have HCV := Lib.hid (num_rd hl 4 (by omega) (by omega))
  have HWV := Lib.hid (And.intro ((KR.below (R := R) hbA).trans (KR.below hb0)) (And.intro (show W.drew.heap[N]? = _ from n1) (show W.drew.heap[N + 1]? = _ from n2)))
  obtain ⟨r, hr⟩ : ∃ r, r = rdMsg frm l0 := ⟨_, rfl⟩
  rw [← hr]
  have HR0 := Lib.hid hr
  clear n1 n2 hb1 hb2 hbA h hr hb0 hl
  go_enter Try.func46, Try.ntmps46
  go_upto_region 1 with (fail)
  rw [← hW, ← hN]
  clear hW hN
  go_cut [5] (fun s5 wx => ∃ (M seq st sv : Nat) (l3 : List UInt8), s5 = .pointer (some ⟨M, 0, none⟩) ∧ wx.heap[M]? = some (.cells #[.int .i64 frm, .int .u32 (seq : Int), .int .u64 (st : Int), .int .i64 (sv : Int), .slice none 0 0, .string ⟨#[]⟩] 32 (0, 0)) ∧ N + 1 < M ∧ M ≠ R ∧ Hid (seq < 4294967296 ∧ st < 18446744073709551616 ∧ sv < 256 ∧ r = rdMsg2 frm seq st sv l3) ∧ RdL wx R s l3 ∧ KR R w wx ∧ wx.heap[N]? = some (.cells #[.pointer (some ⟨R, 0, none⟩)] 63 (0, 0)) ∧ wx.heap[N + 1]? = some (.cells #[.int .i64 0, .int .u32 0, .int .u64 0, .int .i64 0, .slice none 0 0, .string ⟨#[]⟩] 32 (0, 0)))
  case first =>
    refine wp_region_maskP (fun w' => w'.cell? ⟨N, 0, none⟩ = some (.pointer (some ⟨R, 0, none⟩))) 14 8 [true, true, true, false, false, true, true, false, true, true, false, false, false, false, false] #[true, true, true, false, false, true, true, false, true, true, false, false, false, false, false] (by kernel_rfl) (by kernel_rfl) (by kernel_rfl) (fun c a d v w h => by cases d <;> exact h) c0 ?_
    clear c0
    generalize W.drew = V at *
    refine wpMask_take _ (Or.inl ⟨by rfl, fun w' hS => by (try dsimp only at hS); go_simp; try with_reducible rfl⟩) ?_
    simp only [Act.put, List.setIfInBounds_toArray, List.set_cons_zero, List.set_cons_succ]
    refine wpMask_take _ (Or.inl ⟨by rfl, fun w' hS => by (try dsimp only at hS); go_simp; try with_reducible rfl⟩) ?_
    simp only [Act.put, List.setIfInBounds_toArray, List.set_cons_zero, List.set_cons_succ]
    refine wpMask_take _ (Or.inl ⟨by rfl, fun w' hS => by (try dsimp only at hS); go_simp; try with_reducible rfl⟩) ?_
    simp only [Act.put, List.setIfInBounds_toArray, List.set_cons_zero, List.set_cons_succ]
    refine wpMask_skip ?_
    refine wpMask_skip ?_
    refine wpMask_take _ (Or.inl ⟨by rfl, fun w' hS => by (try dsimp only at hS); go_simp; try with_reducible rfl⟩) ?_
    simp only [Act.put, List.setIfInBounds_toArray, List.set_cons_zero, List.set_cons_succ]
    refine wpMask_take _ (Or.inl ⟨by rfl, fun w' hS => by (try dsimp only at hS); go_simp; try with_reducible rfl⟩) ?_
    simp only [Act.put, List.setIfInBounds_toArray, List.set_cons_zero, List.set_cons_succ]
    refine wpMask_skip ?_
    refine wpMask_take _ (Or.inl ⟨by rfl, fun w' hS => by (try dsimp only at hS); go_simp; try with_reducible rfl⟩) ?_
    simp only [Act.put, List.setIfInBounds_toArray, List.set_cons_zero, List.set_cons_succ]
    refine wpMask_take _ (Or.inl ⟨by rfl, fun w' hS => by (try dsimp only at hS); go_simp; try with_reducible rfl⟩) ?_
    simp only [Act.put, List.setIfInBounds_toArray, List.set_cons_zero, List.set_cons_succ]
    refine wpMask_skip (wpMask_skip (wpMask_skip (wpMask_skip (wpMask_skip (wpMask_nil ?_)))))
    refine wpAnyS_ready (rs := [3, 13]) (by kernel_rfl) (by simp) ?_
    refine AllReadyS.cons rfl (fun K hK => ?_) (AllReadyS.cons rfl (fun K hK => ?_) AllReadyS.nil)
    · go_simp
      refine HCV.out.mono ?_
      intro e w1 h1
      rcases hn : rdN 4 l0 with c | ⟨seq, l1⟩
      · rw [hn] at h1
        obtain ⟨rfl, hk⟩ := h1
        have HE := Lib.hid (msgErr (s := s) (show r = .error c from by rw [HR0.out]; exact andR_err hn _) (HWV.out.1.trans hk))
        clear hn hk
        exact bodyPost_pan rfl HE.out
      rw [hn] at h1
      obtain ⟨rfl, h1, hk⟩ := h1
      have HR1 := Lib.hid (show r = andR (rdN 8 l1) fun st l => andR (rdN 1 l) fun sv l => rdMsg2 frm seq st sv l from by rw [HR0.out]; exact andR_ok hn _)
      have hv0 := (rdN_lt (by omega) hn).1
      have HWw1 := Lib.hid (And.intro (HWV.out.1.trans hk) (And.intro (keep2 HWV.out.2.1 hk HNR.out.1) (keep2 HWV.out.2.2 hk HNR.out.2.1)))
      have hw0 : IntKind.u32.wrap (seq : Int) = (seq : Int) := by rw [IntKind.wrap_u32]; simp at hv0; omega
      have HLw1 := Lib.hid h1
      have HCw1 := Lib.hid (num_rd h1 8 (by omega) (by omega))
      refine hK.out _ _ (fun _ => cell_of_row _ _ 0 _ _ _ HWw1.out.2.1) ?_
      clear hK K hn hk h1 HCV
      simp only [Act.put, List.setIfInBounds_toArray, List.set_cons_zero, List.set_cons_succ]
      refine wpAnyS_takeP (i := 4) _ (fun c a d v w h => by cases d <;> exact h) rfl (by kernel_rfl) (Or.inl ⟨by rfl, fun w' hS => by (try dsimp only at hS); go_simp; try with_reducible rfl⟩) (cell_of_row _ _ 0 _ _ _ HWw1.out.2.1) ?_
      simp only [Act.put, List.setIfInBounds_toArray, List.set_cons_zero, List.set_cons_succ, List.getElem_toArray, List.getElem_cons_succ, List.getElem_cons_zero]
      clear hw0
      refine wpAnyS_ready (rs := [7, 13]) (by kernel_rfl) (by simp) ?_
      refine AllReadyS.cons rfl (fun K hK => ?_) (AllReadyS.cons rfl (fun K hK => ?_) AllReadyS.nil)
      · go_simp
        refine HCw1.out.mono ?_
        intro e w2 h1
        rcases hn : rdN 8 l1 with c | ⟨st, l2⟩
        · rw [hn] at h1
          obtain ⟨rfl, hk⟩ := h1
          have HE := Lib.hid (msgErr (s := s) (show r = .error c from by rw [HR1.out]; exact andR_err hn _) (HWw1.out.1.trans hk))
          clear hn hk
          exact bodyPost_pan rfl HE.out
        rw [hn] at h1
        obtain ⟨rfl, h1, hk⟩ := h1
        have HR2 := Lib.hid (show r = andR (rdN 1 l2) fun sv l => rdMsg2 frm seq st sv l from by rw [HR1.out]; exact andR_ok hn _)
        have hv1 := (rdN_lt (by omega) hn).1
        have HWw2 := Lib.hid (And.intro (HWw1.out.1.trans hk) (And.intro (keep2 HWw1.out.2.1 hk HNR.out.1) (keep2 HWw1.out.2.2 hk HNR.out.2.1)))
        have HLw2 := Lib.hid h1
        have HCw2 := Lib.hid (num_rd h1 1 (by omega) (by omega))
        refine hK.out _ _ (fun _ => cell_of_row _ _ 0 _ _ _ HWw2.out.2.1) ?_
        clear hK K hn hk h1 HCw1
        simp only [Act.put, List.setIfInBounds_toArray, List.set_cons_zero, List.set_cons_succ]
        refine wpAnyS_ready (rs := [10, 13]) (by kernel_rfl) (by simp) ?_
        refine AllReadyS.cons rfl (fun K hK => ?_) (AllReadyS.cons rfl (fun K hK => ?_) AllReadyS.nil)
        · go_simp
          refine HCw2.out.mono ?_
          intro e w3 h1
          rcases hn : rdN 1 l2 with c | ⟨sv, l3⟩
          · rw [hn] at h1
            obtain ⟨rfl, hk⟩ := h1
            have HE := Lib.hid (msgErr (s := s) (show r = .error c from by rw [HR2.out]; exact andR_err hn _) (HWw2.out.1.trans hk))
            clear hn hk
            exact bodyPost_pan rfl HE.out
          rw [hn] at h1
          obtain ⟨rfl, h1, hk⟩ := h1
          have HR3 := Lib.hid (show r = rdMsg2 frm seq st sv l3 from by rw [HR2.out]; exact andR_ok hn _)
          have hv2 := (rdN_lt (by omega) hn).1
          have HWw3 := Lib.hid (And.intro (HWw2.out.1.trans hk) (And.intro (keep2 HWw2.out.2.1 hk HNR.out.1) (keep2 HWw2.out.2.2 hk HNR.out.2.1)))
          have hw2 : IntKind.i64.wrap (sv : Int) = (sv : Int) := IntWalk.i64_in _ (by simp at hv2; omega)
          have HLw3 := Lib.hid h1
          refine hK.out _ _ (fun _ => cell_of_row _ _ 0 _ _ _ HWw3.out.2.1) ?_
          clear hK K hn hk h1 HCw2
          simp only [Act.put, List.setIfInBounds_toArray, List.set_cons_zero, List.set_cons_succ]
          refine wpAnyS_takeP (i := 11) _ (fun c a d v w h => by cases d <;> exact h) rfl (by kernel_rfl) (Or.inl ⟨by rfl, fun w' hS => by (try dsimp only at hS); go_simp; try with_reducible rfl⟩) (cell_of_row _ _ 0 _ _ _ HWw3.out.2.1) ?_
          simp only [Act.put, List.setIfInBounds_toArray, List.set_cons_zero, List.set_cons_succ, List.getElem_toArray, List.getElem_cons_succ, List.getElem_cons_zero]
          refine wpAnyS_takeP (i := 12) _ (fun c a d v w h => by cases d <;> exact h) rfl (by kernel_rfl) (Or.inl ⟨by rfl, fun w' hS => by (try dsimp only at hS); go_simp; try with_reducible rfl⟩) (cell_of_row _ _ 0 _ _ _ HWw3.out.2.1) ?_
          simp only [Act.put, List.setIfInBounds_toArray, List.set_cons_zero, List.set_cons_succ, List.getElem_toArray, List.getElem_cons_succ, List.getElem_cons_zero]
          clear hw2
          refine wpAnyS_ready (rs := [13]) (by kernel_rfl) (by simp) ?_
          refine AllReadyS.cons rfl (fun K hK => ?_) AllReadyS.nil
          go_simp
          obtain ⟨M, hM⟩ : ∃ M, M = w3.heap.size := ⟨_, rfl⟩
          obtain ⟨w4, hV⟩ : ∃ w4, w4 = w3.alloc (.cells #[.int .i64 0, .int .u32 0, .int .u64 0, .int .i64 0, .slice none 0 0, .string ⟨#[]⟩] 32) := ⟨_, rfl⟩
          have hb := ba (br w3) (.cells #[.int .i64 0, .int .u32 0, .int .u64 0, .int .i64 0, .slice none 0 0, .string ⟨#[]⟩] 32)
          have hm := heap_alloc_new w3 (.cells #[.int .i64 0, .int .u32 0, .int .u64 0, .int .i64 0, .slice none 0 0, .string ⟨#[]⟩] 32)
          rw [← hV] at hb hm
          rw [← hM] at hm
          rw [← hV, ← hM]
          have hlt := (Array.getElem?_eq_some_iff.1 HWw3.out.2.2).1
          have HWw4 := Lib.hid (And.intro (HWw3.out.1.trans (KR.below hb)) (And.intro ((hb.block _ (Array.getElem?_eq_some_iff.1 HWw3.out.2.1).1).trans HWw3.out.2.1) ((hb.block _ hlt).trans HWw3.out.2.2)))
          have HAw4 := Lib.hid (show w4.heap[M]? = some (.cells #[.int .i64 0, .int .u32 0, .int .u64 0, .int .i64 0, .slice none 0 0, .string ⟨#[]⟩] 32 (0, 0)) ∧ N + 1 < M ∧ M ≠ R from ⟨hm, by rw [hM]; exact hlt, by have := HNR.out.2.2; omega⟩)
          have hL := HLw3.out.below hb
          have HLw4 := Lib.hid hL
          refine hK.out _ _ (fun _ => cell_of_row _ _ 0 _ _ _ HWw4.out.2.1) ?_
          clear hK K hV hb hm hlt hM hL
          simp only [Act.put, List.setIfInBounds_toArray, List.set_cons_zero, List.set_cons_succ]
          refine wpAnyS_ready (rs := [14]) (by kernel_rfl) (by simp) ?_
          refine AllReadyS.cons rfl (fun K hK => ?_) AllReadyS.nil
          rw [if_pos (by rfl)]
          refine wp_store_row 32 (.tmp 5) (.tmp 19) rfl M #[.int .i64 frm, .int .u32 (seq : Int), .int .u64 (st : Int), .int .i64 (sv : Int), .slice none 0 0, .string ⟨#[]⟩] rfl rfl 32 _ HAw4.out.1 (by kernel_rfl) rfl (by simp [Value.oneCell']) ?_
          refine hK.out _ _ (fun h => absurd h (by decide)) ?_
          clear hK K
          simp only [Act.put, List.setIfInBounds_toArray, List.set_cons_zero, List.set_cons_succ]
          have HE := Lib.hid (And.intro (setRow_heap w4 M _ #[.int .i64 frm, .int .u32 (seq : Int), .int .u64 (st : Int), .int .i64 (sv : Int), .slice none 0 0, .string ⟨#[]⟩] _ _ HAw4.out.1) (And.intro (HLw4.out.kept (kept_setRow' w4 M #[.int .i64 frm, .int .u32 (seq : Int), .int .u64 (st : Int), .int .i64 (sv : Int), .slice none 0 0, .string ⟨#[]⟩]) (fun e => HAw4.out.2.2 e.symm)) (And.intro (HWw4.out.1.above (kept_setRow' w4 M #[.int .i64 frm, .int .u32 (seq : Int), .int .u64 (st : Int), .int .i64 (sv : Int), .slice none 0 0, .string ⟨#[]⟩]) (fun k hk => by have := HAw4.out.2.1; have := HNR.out.2.2; omega)) (And.intro ((kept_setRow' w4 M #[.int .i64 frm, .int .u32 (seq : Int), .int .u64 (st : Int), .int .i64 (sv : Int), .slice none 0 0, .string ⟨#[]⟩]).keep HWw4.out.2.1 (by have := HAw4.out.2.1; omega)) ((kept_setRow' w4 M #[.int .i64 frm, .int .u32 (seq : Int), .int .u64 (st : Int), .int .i64 (sv : Int), .slice none 0 0, .string ⟨#[]⟩]).keep HWw4.out.2.2 (by have := HAw4.out.2.1; omega))))))
          refine wpAnyS_doneP (by kernel_rfl) ?_ _
          go_wp2_with fail
          go_meet
          exact ⟨M, seq, st, sv, l3, rfl, HE.out.1, HAw4.out.2.1, HAw4.out.2.2, ⟨by simpa using hv0, by simpa using hv1, by simpa using hv2, HR3.out⟩, HE.out.2.1, HE.out.2.2.1, HE.out.2.2.2.1, HE.out.2.2.2.2⟩
        · go_simp
          obtain ⟨M, hM⟩ : ∃ M, M = w2.heap.size := ⟨_, rfl⟩
          obtain ⟨w5, hV⟩ : ∃ w5, w5 = w2.alloc (.cells #[.int .i64 0, .int .u32 0, .int .u64 0, .int .i64 0, .slice none 0 0, .string ⟨#[]⟩] 32) := ⟨_, rfl⟩
          have hb := ba (br w2) (.cells #[.int .i64 0, .int .u32 0, .int .u64 0, .int .i64 0, .slice none 0 0, .string ⟨#[]⟩] 32)
          have hm := heap_alloc_new w2 (.cells #[.int .i64 0, .int .u32 0, .int .u64 0, .int .i64 0, .slice none 0 0, .string ⟨#[]⟩] 32)
          rw [← hV] at hb hm
          rw [← hM] at hm
          rw [← hV, ← hM]
          have hlt := (Array.getElem?_eq_some_iff.1 HWw2.out.2.2).1
          have HWw5 := Lib.hid (And.intro (HWw2.out.1.trans (KR.below hb)) (And.intro ((hb.block _ (Array.getElem?_eq_some_iff.1 HWw2.out.2.1).1).trans HWw2.out.2.1) ((hb.block _ hlt).trans HWw2.out.2.2)))
          have HAw5 := Lib.hid (show w5.heap[M]? = some (.cells #[.int .i64 0, .int .u32 0, .int .u64 0, .int .i64 0, .slice none 0 0, .string ⟨#[]⟩] 32 (0, 0)) ∧ N + 1 < M ∧ M ≠ R from ⟨hm, by rw [hM]; exact hlt, by have := HNR.out.2.2; omega⟩)
          have hL := HLw2.out.below hb
          have HLw5 := Lib.hid hL
          have HCw5 := Lib.hid (num_rd hL 1 (by omega) (by omega))
          refine hK.out _ _ (fun _ => cell_of_row _ _ 0 _ _ _ HWw5.out.2.1) ?_
          clear hK K hV hb hm hlt hM hL HCw2
          simp only [Act.put, List.setIfInBounds_toArray, List.set_cons_zero, List.set_cons_succ]
          refine wpAnyS_ready (rs := [10]) (by kernel_rfl) (by simp) ?_
          refine AllReadyS.cons rfl (fun K hK => ?_) AllReadyS.nil
          go_simp
          refine HCw5.out.mono ?_
          intro e w6 h1
          rcases hn : rdN 1 l2 with c | ⟨sv, l3⟩
          · rw [hn] at h1
            obtain ⟨rfl, hk⟩ := h1
            have HE := Lib.hid (msgErr (s := s) (show r = .error c from by rw [HR2.out]; exact andR_err hn _) (HWw5.out.1.trans hk))
            clear hn hk
            exact bodyPost_pan rfl HE.out
          rw [hn] at h1
          obtain ⟨rfl, h1, hk⟩ := h1
          have HR3 := Lib.hid (show r = rdMsg2 frm seq st sv l3 from by rw [HR2.out]; exact andR_ok hn _)
          have hv2 := (rdN_lt (by omega) hn).1
          have HWw6 := Lib.hid (And.intro (HWw5.out.1.trans hk) (And.intro (keep2 HWw5.out.2.1 hk HNR.out.1) (keep2 HWw5.out.2.2 hk HNR.out.2.1)))
          have HAw6 := Lib.hid (And.intro (keep2 HAw5.out.1 hk HAw5.out.2.2) HAw5.out.2)
          have hw2 : IntKind.i64.wrap (sv : Int) = (sv : Int) := IntWalk.i64_in _ (by simp at hv2; omega)
          have HLw6 := Lib.hid h1
          refine hK.out _ _ (fun _ => cell_of_row _ _ 0 _ _ _ HWw6.out.2.1) ?_
          clear hK K hn hk h1 HCw5
          simp only [Act.put, List.setIfInBounds_toArray, List.set_cons_zero, List.set_cons_succ]
          refine wpAnyS_takeP (i := 11) _ (fun c a d v w h => by cases d <;> exact h) rfl (by kernel_rfl) (Or.inl ⟨by rfl, fun w' hS => by (try dsimp only at hS); go_simp; try with_reducible rfl⟩) (cell_of_row _ _ 0 _ _ _ HWw6.out.2.1) ?_
          simp only [Act.put, List.setIfInBounds_toArray, List.set_cons_zero, List.set_cons_succ, List.getElem_toArray, List.getElem_cons_succ, List.getElem_cons_zero]
          refine wpAnyS_takeP (i := 12) _ (fun c a d v w h => by cases d <;> exact h) rfl (by kernel_rfl) (Or.inl ⟨by rfl, fun w' hS => by (try dsimp only at hS); go_simp; try with_reducible rfl⟩) (cell_of_row _ _ 0 _ _ _ HWw6.out.2.1) ?_
          simp only [Act.put, List.setIfInBounds_toArray, List.set_cons_zero, List.set_cons_succ, List.getElem_toArray, List.getElem_cons_succ, List.getElem_cons_zero]
          clear hw2
          refine wpAnyS_ready (rs := [14]) (by kernel_rfl) (by simp) ?_
          refine AllReadyS.cons rfl (fun K hK => ?_) AllReadyS.nil
          rw [if_pos (by rfl)]
          refine wp_store_row 32 (.tmp 5) (.tmp 19) rfl M #[.int .i64 frm, .int .u32 (seq : Int), .int .u64 (st : Int), .int .i64 (sv : Int), .slice none 0 0, .string ⟨#[]⟩] rfl rfl 32 _ HAw6.out.1 (by kernel_rfl) rfl (by simp [Value.oneCell']) ?_
          refine hK.out _ _ (fun h => absurd h (by decide)) ?_
          clear hK K
          simp only [Act.put, List.setIfInBounds_toArray, List.set_cons_zero, List.set_cons_succ]
          have HE := Lib.hid (And.intro (setRow_heap w6 M _ #[.int .i64 frm, .int .u32 (seq : Int), .int .u64 (st : Int), .int .i64 (sv : Int), .slice none 0 0, .string ⟨#[]⟩] _ _ HAw6.out.1) (And.intro (HLw6.out.kept (kept_setRow' w6 M #[.int .i64 frm, .int .u32 (seq : Int), .int .u64 (st : Int), .int .i64 (sv : Int), .slice none 0 0, .string ⟨#[]⟩]) (fun e => HAw6.out.2.2 e.symm)) (And.intro (HWw6.out.1.above (kept_setRow' w6 M #[.int .i64 frm, .int .u32 (seq : Int), .int .u64 (st : Int), .int .i64 (sv : Int), .slice none 0 0, .string ⟨#[]⟩]) (fun k hk => by have := HAw6.out.2.1; have := HNR.out.2.2; omega)) (And.intro ((kept_setRow' w6 M #[.int .i64 frm, .int .u32 (seq : Int), .int .u64 (st : Int), .int .i64 (sv : Int), .slice none 0 0, .string ⟨#[]⟩]).keep HWw6.out.2.1 (by have := HAw6.out.2.1; omega)) ((kept_setRow' w6 M #[.int .i64 frm, .int .u32 (seq : Int), .int .u64 (st : Int), .int .i64 (sv : Int), .slice none 0 0, .string ⟨#[]⟩]).keep HWw6.out.2.2 (by have := HAw6.out.2.1; omega))))))
          refine wpAnyS_doneP (by kernel_rfl) ?_ _
          go_wp2_with fail
          go_meet
          exact ⟨M, seq, st, sv, l3, rfl, HE.out.1, HAw6.out.2.1, HAw6.out.2.2, ⟨by simpa using hv0, by simpa using hv1, by simpa using hv2, HR3.out⟩, HE.out.2.1, HE.out.2.2.1, HE.out.2.2.2.1, HE.out.2.2.2.2⟩
      · go_simp
        obtain ⟨M, hM⟩ : ∃ M, M = w1.heap.size := ⟨_, rfl⟩
        obtain ⟨w7, hV⟩ : ∃ w7, w7 = w1.alloc (.cells #[.int .i64 0, .int .u32 0, .int .u64 0, .int .i64 0, .slice none 0 0, .string ⟨#[]⟩] 32) := ⟨_, rfl⟩
        have hb := ba (br w1) (.cells #[.int .i64 0, .int .u32 0, .int .u64 0, .int .i64 0, .slice none 0 0, .string ⟨#[]⟩] 32)
        have hm := heap_alloc_new w1 (.cells #[.int .i64 0, .int .u32 0, .int .u64 0, .int .i64 0, .slice none 0 0, .string ⟨#[]⟩] 32)
        rw [← hV] at hb hm
        rw [← hM] at hm
        rw [← hV, ← hM]
        have hlt := (Array.getElem?_eq_some_iff.1 HWw1.out.2.2).1
        have HWw7 := Lib.hid (And.intro (HWw1.out.1.trans (KR.below hb)) (And.intro ((hb.block _ (Array.getElem?_eq_some_iff.1 HWw1.out.2.1).1).trans HWw1.out.2.1) ((hb.block _ hlt).trans HWw1.out.2.2)))
        have HAw7 := Lib.hid (show w7.heap[M]? = some (.cells #[.int .i64 0, .int .u32 0, .int .u64 0, .int .i64 0, .slice none 0 0, .string ⟨#[]⟩] 32 (0, 0)) ∧ N + 1 < M ∧ M ≠ R from ⟨hm, by rw [hM]; exact hlt, by have := HNR.out.2.2; omega⟩)
        have hL := HLw1.out.below hb
        have HLw7 := Lib.hid hL
        have HCw7 := Lib.hid (num_rd hL 8 (by omega) (by omega))
        refine hK.out _ _ (fun _ => cell_of_row _ _ 0 _ _ _ HWw7.out.2.1) ?_
        clear hK K hV hb hm hlt hM hL HCw1
        simp only [Act.put, List.setIfInBounds_toArray, List.set_cons_zero, List.set_cons_succ]
        refine wpAnyS_ready (rs := [7]) (by kernel_rfl) (by simp) ?_
        refine AllReadyS.cons rfl (fun K hK => ?_) AllReadyS.nil
        go_simp
        refine HCw7.out.mono ?_
        intro e w8 h1
        rcases hn : rdN 8 l1 with c | ⟨st, l2⟩
        · rw [hn] at h1
          obtain ⟨rfl, hk⟩ := h1
          have HE := Lib.hid (msgErr (s := s) (show r = .error c from by rw [HR1.out]; exact andR_err hn _) (HWw7.out.1.trans hk))
          clear hn hk
          exact bodyPost_pan rfl HE.out
        rw [hn] at h1
        obtain ⟨rfl, h1, hk⟩ := h1
        have HR2 := Lib.hid (show r = andR (rdN 1 l2) fun sv l => rdMsg2 frm seq st sv l from by rw [HR1.out]; exact andR_ok hn _)
        have hv1 := (rdN_lt (by omega) hn).1
        have HWw8 := Lib.hid (And.intro (HWw7.out.1.trans hk) (And.intro (keep2 HWw7.out.2.1 hk HNR.out.1) (keep2 HWw7.out.2.2 hk HNR.out.2.1)))
        have HAw8 := Lib.hid (And.intro (keep2 HAw7.out.1 hk HAw7.out.2.2) HAw7.out.2)
        have HLw8 := Lib.hid h1
        have HCw8 := Lib.hid (num_rd h1 1 (by omega) (by omega))
        refine hK.out _ _ (fun _ => cell_of_row _ _ 0 _ _ _ HWw8.out.2.1) ?_
        clear hK K hn hk h1 HCw7
        simp only [Act.put, List.setIfInBounds_toArray, List.set_cons_zero, List.set_cons_succ]
        refine wpAnyS_ready (rs := [10]) (by kernel_rfl) (by simp) ?_
        refine AllReadyS.cons rfl (fun K hK => ?_) AllReadyS.nil
        go_simp
        refine HCw8.out.mono ?_
        intro e w9 h1
        rcases hn : rdN 1 l2 with c | ⟨sv, l3⟩
        · rw [hn] at h1
          obtain ⟨rfl, hk⟩ := h1
          have HE := Lib.hid (msgErr (s := s) (show r = .error c from by rw [HR2.out]; exact andR_err hn _) (HWw8.out.1.trans hk))
          clear hn hk
          exact bodyPost_pan rfl HE.out
        rw [hn] at h1
        obtain ⟨rfl, h1, hk⟩ := h1
        have HR3 := Lib.hid (show r = rdMsg2 frm seq st sv l3 from by rw [HR2.out]; exact andR_ok hn _)
        have hv2 := (rdN_lt (by omega) hn).1
        have HWw9 := Lib.hid (And.intro (HWw8.out.1.trans hk) (And.intro (keep2 HWw8.out.2.1 hk HNR.out.1) (keep2 HWw8.out.2.2 hk HNR.out.2.1)))
        have HAw9 := Lib.hid (And.intro (keep2 HAw8.out.1 hk HAw8.out.2.2) HAw8.out.2)
        have hw2 : IntKind.i64.wrap (sv : Int) = (sv : Int) := IntWalk.i64_in _ (by simp at hv2; omega)
        have HLw9 := Lib.hid h1
        refine hK.out _ _ (fun _ => cell_of_row _ _ 0 _ _ _ HWw9.out.2.1) ?_
        clear hK K hn hk h1 HCw8
        simp only [Act.put, List.setIfInBounds_toArray, List.set_cons_zero, List.set_cons_succ]
        refine wpAnyS_takeP (i := 11) _ (fun c a d v w h => by cases d <;> exact h) rfl (by kernel_rfl) (Or.inl ⟨by rfl, fun w' hS => by (try dsimp only at hS); go_simp; try with_reducible rfl⟩) (cell_of_row _ _ 0 _ _ _ HWw9.out.2.1) ?_
        simp only [Act.put, List.setIfInBounds_toArray, List.set_cons_zero, List.set_cons_succ, List.getElem_toArray, List.getElem_cons_succ, List.getElem_cons_zero]
        refine wpAnyS_takeP (i := 12) _ (fun c a d v w h => by cases d <;> exact h) rfl (by kernel_rfl) (Or.inl ⟨by rfl, fun w' hS => by (try dsimp only at hS); go_simp; try with_reducible rfl⟩) (cell_of_row _ _ 0 _ _ _ HWw9.out.2.1) ?_
        simp only [Act.put, List.setIfInBounds_toArray, List.set_cons_zero, List.set_cons_succ, List.getElem_toArray, List.getElem_cons_succ, List.getElem_cons_zero]
        clear hw2
        refine wpAnyS_ready (rs := [14]) (by kernel_rfl) (by simp) ?_
        refine AllReadyS.cons rfl (fun K hK => ?_) AllReadyS.nil
        rw [if_pos (by rfl)]
        refine wp_store_row 32 (.tmp 5) (.tmp 19) rfl M #[.int .i64 frm, .int .u32 (seq : Int), .int .u64 (st : Int), .int .i64 (sv : Int), .slice none 0 0, .string ⟨#[]⟩] rfl rfl 32 _ HAw9.out.1 (by kernel_rfl) rfl (by simp [Value.oneCell']) ?_
        refine hK.out _ _ (fun h => absurd h (by decide)) ?_
        clear hK K
        simp only [Act.put, List.setIfInBounds_toArray, List.set_cons_zero, List.set_cons_succ]
        have HE := Lib.hid (And.intro (setRow_heap w9 M _ #[.int .i64 frm, .int .u32 (seq : Int), .int .u64 (st : Int), .int .i64 (sv : Int), .slice none 0 0, .string ⟨#[]⟩] _ _ HAw9.out.1) (And.intro (HLw9.out.kept (kept_setRow' w9 M #[.int .i64 frm, .int .u32 (seq : Int), .int .u64 (st : Int), .int .i64 (sv : Int), .slice none 0 0, .string ⟨#[]⟩]) (fun e => HAw9.out.2.2 e.symm)) (And.intro (HWw9.out.1.above (kept_setRow' w9 M #[.int .i64 frm, .int .u32 (seq : Int), .int .u64 (st : Int), .int .i64 (sv : Int), .slice none 0 0, .string ⟨#[]⟩]) (fun k hk => by have := HAw9.out.2.1; have := HNR.out.2.2; omega)) (And.intro ((kept_setRow' w9 M #[.int .i64 frm, .int .u32 (seq : Int), .int .u64 (st : Int), .int .i64 (sv : Int), .slice none 0 0, .string ⟨#[]⟩]).keep HWw9.out.2.1 (by have := HAw9.out.2.1; omega)) ((kept_setRow' w9 M #[.int .i64 frm, .int .u32 (seq : Int), .int .u64 (st : Int), .int .i64 (sv : Int), .slice none 0 0, .string ⟨#[]⟩]).keep HWw9.out.2.2 (by have := HAw9.out.2.1; omega))))))
        refine wpAnyS_doneP (by kernel_rfl) ?_ _
        go_wp2_with fail
        go_meet
        exact ⟨M, seq, st, sv, l3, rfl, HE.out.1, HAw9.out.2.1, HAw9.out.2.2, ⟨by simpa using hv0, by simpa using hv1, by simpa using hv2, HR3.out⟩, HE.out.2.1, HE.out.2.2.1, HE.out.2.2.2.1, HE.out.2.2.2.2⟩
    · go_simp
      obtain ⟨M, hM⟩ : ∃ M, M = V.heap.size := ⟨_, rfl⟩
      obtain ⟨w10, hV⟩ : ∃ w10, w10 = V.alloc (.cells #[.int .i64 0, .int .u32 0, .int .u64 0, .int .i64 0, .slice none 0 0, .string ⟨#[]⟩] 32) := ⟨_, rfl⟩
      have hb := ba (br V) (.cells #[.int .i64 0, .int .u32 0, .int .u64 0, .int .i64 0, .slice none 0 0, .string ⟨#[]⟩] 32)
      have hm := heap_alloc_new V (.cells #[.int .i64 0, .int .u32 0, .int .u64 0, .int .i64 0, .slice none 0 0, .string ⟨#[]⟩] 32)
      rw [← hV] at hb hm
      rw [← hM] at hm
      rw [← hV, ← hM]
      have hlt := (Array.getElem?_eq_some_iff.1 HWV.out.2.2).1
      have HWw10 := Lib.hid (And.intro (HWV.out.1.trans (KR.below hb)) (And.intro ((hb.block _ (Array.getElem?_eq_some_iff.1 HWV.out.2.1).1).trans HWV.out.2.1) ((hb.block _ hlt).trans HWV.out.2.2)))
      have HAw10 := Lib.hid (show w10.heap[M]? = some (.cells #[.int .i64 0, .int .u32 0, .int .u64 0, .int .i64 0, .slice none 0 0, .string ⟨#[]⟩] 32 (0, 0)) ∧ N + 1 < M ∧ M ≠ R from ⟨hm, by rw [hM]; exact hlt, by have := HNR.out.2.2; omega⟩)
      have hL := HLV.out.below hb
      have HLw10 := Lib.hid hL
      have HCw10 := Lib.hid (num_rd hL 4 (by omega) (by omega))
      refine hK.out _ _ (fun _ => cell_of_row _ _ 0 _ _ _ HWw10.out.2.1) ?_
      clear hK K hV hb hm hlt hM hL HCV
      simp only [Act.put, List.setIfInBounds_toArray, List.set_cons_zero, List.set_cons_succ]
      refine wpAnyS_ready (rs := [3]) (by kernel_rfl) (by simp) ?_
      refine AllReadyS.cons rfl (fun K hK => ?_) AllReadyS.nil
      go_simp
      refine HCw10.out.mono ?_
      intro e w11 h1
      rcases hn : rdN 4 l0 with c | ⟨seq, l1⟩
      · rw [hn] at h1
        obtain ⟨rfl, hk⟩ := h1
        have HE := Lib.hid (msgErr (s := s) (show r = .error c from by rw [HR0.out]; exact andR_err hn _) (HWw10.out.1.trans hk))
        clear hn hk
        exact bodyPost_pan rfl HE.out
      rw [hn] at h1
      obtain ⟨rfl, h1, hk⟩ := h1
      have HR1 := Lib.hid (show r = andR (rdN 8 l1) fun st l => andR (rdN 1 l) fun sv l => rdMsg2 frm seq st sv l from by rw [HR0.out]; exact andR_ok hn _)
      have hv0 := (rdN_lt (by omega) hn).1
      have HWw11 := Lib.hid (And.intro (HWw10.out.1.trans hk) (And.intro (keep2 HWw10.out.2.1 hk HNR.out.1) (keep2 HWw10.out.2.2 hk HNR.out.2.1)))
      have HAw11 := Lib.hid (And.intro (keep2 HAw10.out.1 hk HAw10.out.2.2) HAw10.out.2)
      have hw0 : IntKind.u32.wrap (seq : Int) = (seq : Int) := by rw [IntKind.wrap_u32]; simp at hv0; omega
      have HLw11 := Lib.hid h1
      have HCw11 := Lib.hid (num_rd h1 8 (by omega) (by omega))
      refine hK.out _ _ (fun _ => cell_of_row _ _ 0 _ _ _ HWw11.out.2.1) ?_
      clear hK K hn hk h1 HCw10
      simp only [Act.put, List.setIfInBounds_toArray, List.set_cons_zero, List.set_cons_succ]
      refine wpAnyS_takeP (i := 4) _ (fun c a d v w h => by cases d <;> exact h) rfl (by kernel_rfl) (Or.inl ⟨by rfl, fun w' hS => by (try dsimp only at hS); go_simp; try with_reducible rfl⟩) (cell_of_row _ _ 0 _ _ _ HWw11.out.2.1) ?_
      simp only [Act.put, List.setIfInBounds_toArray, List.set_cons_zero, List.set_cons_succ, List.getElem_toArray, List.getElem_cons_succ, List.getElem_cons_zero]
      clear hw0
      refine wpAnyS_ready (rs := [7]) (by kernel_rfl) (by simp) ?_
      refine AllReadyS.cons rfl (fun K hK => ?_) AllReadyS.nil
      go_simp
      refine HCw11.out.mono ?_
      intro e w12 h1
      rcases hn : rdN 8 l1 with c | ⟨st, l2⟩
      · rw [hn] at h1
        obtain ⟨rfl, hk⟩ := h1
        have HE := Lib.hid (msgErr (s := s) (show r = .error c from by rw [HR1.out]; exact andR_err hn _) (HWw11.out.1.trans hk))
        clear hn hk
        exact bodyPost_pan rfl HE.out
      rw [hn] at h1
      obtain ⟨rfl, h1, hk⟩ := h1
      have HR2 := Lib.hid (show r = andR (rdN 1 l2) fun sv l => rdMsg2 frm seq st sv l from by rw [HR1.out]; exact andR_ok hn _)
      have hv1 := (rdN_lt (by omega) hn).1
      have HWw12 := Lib.hid (And.intro (HWw11.out.1.trans hk) (And.intro (keep2 HWw11.out.2.1 hk HNR.out.1) (keep2 HWw11.out.2.2 hk HNR.out.2.1)))
      have HAw12 := Lib.hid (And.intro (keep2 HAw11.out.1 hk HAw11.out.2.2) HAw11.out.2)
      have HLw12 := Lib.hid h1
      have HCw12 := Lib.hid (num_rd h1 1 (by omega) (by omega))
      refine hK.out _ _ (fun _ => cell_of_row _ _ 0 _ _ _ HWw12.out.2.1) ?_
      clear hK K hn hk h1 HCw11
      simp only [Act.put, List.setIfInBounds_toArray, List.set_cons_zero, List.set_cons_succ]
      refine wpAnyS_ready (rs := [10]) (by kernel_rfl) (by simp) ?_
      refine AllReadyS.cons rfl (fun K hK => ?_) AllReadyS.nil
      go_simp
      refine HCw12.out.mono ?_
      intro e w13 h1
      rcases hn : rdN 1 l2 with c | ⟨sv, l3⟩
      · rw [hn] at h1
        obtain ⟨rfl, hk⟩ := h1
        have HE := Lib.hid (msgErr (s := s) (show r = .error c from by rw [HR2.out]; exact andR_err hn _) (HWw12.out.1.trans hk))
        clear hn hk
        exact bodyPost_pan rfl HE.out
      rw [hn] at h1
      obtain ⟨rfl, h1, hk⟩ := h1
      have HR3 := Lib.hid (show r = rdMsg2 frm seq st sv l3 from by rw [HR2.out]; exact andR_ok hn _)
      have hv2 := (rdN_lt (by omega) hn).1
      have HWw13 := Lib.hid (And.intro (HWw12.out.1.trans hk) (And.intro (keep2 HWw12.out.2.1 hk HNR.out.1) (keep2 HWw12.out.2.2 hk HNR.out.2.1)))
      have HAw13 := Lib.hid (And.intro (keep2 HAw12.out.1 hk HAw12.out.2.2) HAw12.out.2)
      have hw2 : IntKind.i64.wrap (sv : Int) = (sv : Int) := IntWalk.i64_in _ (by simp at hv2; omega)
      have HLw13 := Lib.hid h1
      refine hK.out _ _ (fun _ => cell_of_row _ _ 0 _ _ _ HWw13.out.2.1) ?_
      clear hK K hn hk h1 HCw12
      simp only [Act.put, List.setIfInBounds_toArray, List.set_cons_zero, List.set_cons_succ]
      refine wpAnyS_takeP (i := 11) _ (fun c a d v w h => by cases d <;> exact h) rfl (by kernel_rfl) (Or.inl ⟨by rfl, fun w' hS => by (try dsimp only at hS); go_simp; try with_reducible rfl⟩) (cell_of_row _ _ 0 _ _ _ HWw13.out.2.1) ?_
      simp only [Act.put, List.setIfInBounds_toArray, List.set_cons_zero, List.set_cons_succ, List.getElem_toArray, List.getElem_cons_succ, List.getElem_cons_zero]
      refine wpAnyS_takeP (i := 12) _ (fun c a d v w h => by cases d <;> exact h) rfl (by kernel_rfl) (Or.inl ⟨by rfl, fun w' hS => by (try dsimp only at hS); go_simp; try with_reducible rfl⟩) (cell_of_row _ _ 0 _ _ _ HWw13.out.2.1) ?_
      simp only [Act.put, List.setIfInBounds_toArray, List.set_cons_zero, List.set_cons_succ, List.getElem_toArray, List.getElem_cons_succ, List.getElem_cons_zero]
      clear hw2
      refine wpAnyS_ready (rs := [14]) (by kernel_rfl) (by simp) ?_
      refine AllReadyS.cons rfl (fun K hK => ?_) AllReadyS.nil
      rw [if_pos (by rfl)]
      refine wp_store_row 32 (.tmp 5) (.tmp 19) rfl M #[.int .i64 frm, .int .u32 (seq : Int), .int .u64 (st : Int), .int .i64 (sv : Int), .slice none 0 0, .string ⟨#[]⟩] rfl rfl 32 _ HAw13.out.1 (by kernel_rfl) rfl (by simp [Value.oneCell']) ?_
      refine hK.out _ _ (fun h => absurd h (by decide)) ?_
      clear hK K
      simp only [Act.put, List.setIfInBounds_toArray, List.set_cons_zero, List.set_cons_succ]
      have HE := Lib.hid (And.intro (setRow_heap w13 M _ #[.int .i64 frm, .int .u32 (seq : Int), .int .u64 (st : Int), .int .i64 (sv : Int), .slice none 0 0, .string ⟨#[]⟩] _ _ HAw13.out.1) (And.intro (HLw13.out.kept (kept_setRow' w13 M #[.int .i64 frm, .int .u32 (seq : Int), .int .u64 (st : Int), .int .i64 (sv : Int), .slice none 0 0, .string ⟨#[]⟩]) (fun e => HAw13.out.2.2 e.symm)) (And.intro (HWw13.out.1.above (kept_setRow' w13 M #[.int .i64 frm, .int .u32 (seq : Int), .int .u64 (st : Int), .int .i64 (sv : Int), .slice none 0 0, .string ⟨#[]⟩]) (fun k hk => by have := HAw13.out.2.1; have := HNR.out.2.2; omega)) (And.intro ((kept_setRow' w13 M #[.int .i64 frm, .int .u32 (seq : Int), .int .u64 (st : Int), .int .i64 (sv : Int), .slice none 0 0, .string ⟨#[]⟩]).keep HWw13.out.2.1 (by have := HAw13.out.2.1; omega)) ((kept_setRow' w13 M #[.int .i64 frm, .int .u32 (seq : Int), .int .u64 (st : Int), .int .i64 (sv : Int), .slice none 0 0, .string ⟨#[]⟩]).keep HWw13.out.2.2 (by have := HAw13.out.2.1; omega))))))
      refine wpAnyS_doneP (by kernel_rfl) ?_ _
      go_wp2_with fail
      go_meet
      exact ⟨M, seq, st, sv, l3, rfl, HE.out.1, HAw13.out.2.1, HAw13.out.2.2, ⟨by simpa using hv0, by simpa using hv1, by simpa using hv2, HR3.out⟩, HE.out.2.1, HE.out.2.2.1, HE.out.2.2.2.1, HE.out.2.2.2.2⟩
  case rest =>
    obtain ⟨M, seq, st, sv, l3, rfl, hM, hlt, hMR, HV, hl, hk, hn, hz⟩ := hcut
    have HM := Lib.hid (And.intro hM (And.intro hlt (And.intro hMR (And.intro hk (And.intro hn hz)))))
    have c3 : wc.cell? ⟨M, 3, none⟩ = some (.int .i64 (sv : Int)) := cell_of_row _ _ 3 _ _ _ hM
    have c0 : wc.cell? ⟨N, 0, none⟩ = some (.pointer (some ⟨R, 0, none⟩)) := cell_of_row _ _ 0 _ _ _ hn
    by_cases h2 : 2 < sv
    · have HE := Lib.hid (msgErr (s := s) (show r = .error 1 from by rw [HV.out.2.2.2]; exact if_pos h2) hk)
      have d1 : decide (2 < sv) = true := by simpa using h2
      have d2 : decide ((2 : Int) < (sv : Int)) = true := by simp; omega
      clear hM hlt hMR hl hk hn hz h2
      go_wp2_with (go_at_call 50; refine (bad_so 1 _).mono ?_; rintro e w' ⟨rfl, rfl⟩)
      exact bodyPost_pan rfl HE.out
    have HR4 := Lib.hid (show r = andR (rdVec l3) fun ds l => rdMsg3 frm seq st sv ds l from by rw [HV.out.2.2.2]; exact if_neg h2)
    have d1 : decide (2 < sv) = false := by simpa using h2
    have d2 : decide ((2 : Int) < (sv : Int)) = false := by simp; omega
    have HC := Lib.hid (vec_rd hl)
    clear hM hlt hMR hl hk hn hz h2
    go_wp2_with (go_at_call 50; refine (bad_no 1 _).mono ?_; rintro e w' ⟨rfl, rfl⟩)
    refine HC.out.mono ?_
    intro e w2 h2
    rcases hv : rdVec l3 with c | ⟨ds, l4⟩
    · rw [hv] at h2
      obtain ⟨rfl, hk2⟩ := h2
      have HE := Lib.hid (msgErr (s := s) (show r = .error c from by rw [HR4.out]; exact andR_err hv _) (HM.out.2.2.2.1.trans hk2))
      clear hv hk2 HC
      exact bodyPost_pan rfl HE.out
    rw [hv] at h2
    obtain ⟨⟨ad, cap, rfl, ho⟩, h2, hk2⟩ := h2
    have HR5 := Lib.hid (show r = rdMsg3 frm seq st sv ds l4 from by rw [HR4.out]; exact andR_ok hv _)
    have hM2 := keep2 HM.out.1 hk2 HM.out.2.2.1
    have hkS : Kept (fun b => b = M) w2 (w2.setCell ⟨M, 4, none⟩ (.slice ad ds.length cap)) := keptS w2 ⟨M, 4, none⟩ _
    have hMx : M < wc.heap.size := (Array.getElem?_eq_some_iff.1 HM.out.1).1
    have hNM := HM.out.2.1
    have hNw := HNR.out.2.2.2
    have H3 := Lib.hid (And.intro (setCell_block hM2 4 (.slice ad ds.length cap)) (And.intro (h2.kept hkS (fun e => HM.out.2.2.1 e.symm)) (And.intro (((HM.out.2.2.2.1.trans hk2).above hkS (fun k hk => by omega)) : KR R w _) (And.intro (hkS.keep (keep2 HM.out.2.2.2.2.1 hk2 HNR.out.1) (by omega)) (And.intro (hkS.keep (keep2 HM.out.2.2.2.2.2 hk2 HNR.out.2.1) (by omega)) (own_keptS ho hkS (fun b hb e => by have := (ho.lt b hb).1; omega)))))))
    have d4 : w2.cell? ⟨M, 4, none⟩ = some (.slice none 0 0) := cell_of_row _ _ 4 _ _ _ hM2
    have f4 : w2.frozen? ⟨M, 4, none⟩ = false := frozen_of_row _ _ _ _ _ hM2
    clear hv hk2 HC c3 c0 d1 d2 hM2 hkS ho h2 hNw
    go_upto_region 4 with (fail)
    obtain ⟨w3, hw3⟩ : ∃ w3, w3 = w2.setCell ⟨M, 4, none⟩ (.slice ad ds.length cap) := ⟨_, rfl⟩
    rw [← hw3] at H3
    rw [← hw3]
    clear hw3 d4 f4
    have c0 : w3.cell? ⟨N, 0, none⟩ = some (.pointer (some ⟨R, 0, none⟩)) := cell_of_row _ _ 0 _ _ _ H3.out.2.2.2.1
    have HC := Lib.hid (num_rd H3.out.2.1 2 (by omega) (by omega))
    go_wp2_with fail
    refine HC.out.mono ?_
    intro e w4 h4
    rcases hv : rdN 2 l4 with c | ⟨n, l5⟩
    · rw [hv] at h4
      obtain ⟨rfl, hk4⟩ := h4
      have HE := Lib.hid (msgErr (s := s) (show r = .error c from by rw [HR5.out]; exact andR_err hv _) (H3.out.2.2.1.trans hk4))
      clear hv hk4 HC
      exact bodyPost_pan rfl HE.out
    rw [hv] at h4
    obtain ⟨rfl, h4, hk4⟩ := h4
    have hn16 : n < 65536 := by simpa using (rdN_lt (by omega) hv).1
    have hw : IntKind.i64.wrap (n : Int) = (n : Int) := IntWalk.i64_in _ (by omega)
    by_cases h10 : 1024 < n
    · have HE := Lib.hid (msgErr (s := s) (show r = .error 3 from by rw [HR5.out]; unfold rdMsg3; rw [andR_ok hv]; exact if_pos h10) (H3.out.2.2.1.trans hk4))
      have d1 : decide (1024 < n) = true := by simpa using h10
      have d2 : decide ((1024 : Int) < (n : Int)) = true := by simp; omega
      clear hv hk4 HC h4 c0 h10
      go_wp2_with (go_at_call 50; refine (bad_so 3 _).mono ?_; rintro e w' ⟨rfl, rfl⟩)
      exact bodyPost_pan rfl HE.out
    have HR6 := Lib.hid (show r = andR (rdT n l5) fun b l => .ok (⟨frm, seq, st, sv, ds, b, none, 0⟩, l) from by rw [HR5.out]; unfold rdMsg3; rw [andR_ok hv]; exact if_neg h10)
    have d1 : decide (1024 < n) = false := by simpa using h10
    have d2 : decide ((1024 : Int) < (n : Int)) = false := by simp; omega
    have HT := Lib.hid (text_rd h4 n)
    have H4 := Lib.hid (And.intro (keep2 H3.out.1 hk4 HM.out.2.2.1) (And.intro (H3.out.2.2.1.trans hk4) (And.intro (keep2 H3.out.2.2.2.1 hk4 HNR.out.1) (And.intro (keep2 H3.out.2.2.2.2.1 hk4 HNR.out.2.1) (own_keptS H3.out.2.2.2.2.2 hk4 (fun b hb e => by have := (H3.out.2.2.2.2.2.lt b hb).1; have := HNR.out.2.2.1; omega))))))
    have c1 : w4.cell? ⟨N, 0, none⟩ = some (.pointer (some ⟨R, 0, none⟩)) := cell_of_row _ _ 0 _ _ _ H4.out.2.2.1
    clear hv hk4 HC h4 c0 h10
    go_wp2_with (go_at_call 50; refine (bad_no 3 _).mono ?_; rintro e w' ⟨rfl, rfl⟩)
    refine HT.out.mono ?_
    intro e w5 h5
    rcases hv : rdT n l5 with c | ⟨b, l6⟩
    · rw [hv] at h5
      obtain ⟨rfl, hk5⟩ := h5
      have HE := Lib.hid (msgErr (s := s) (show r = .error c from by rw [HR6.out]; exact andR_err hv _) (H4.out.2.1.trans hk5))
      clear hv hk5 HT
      exact bodyPost_pan rfl HE.out
    rw [hv] at h5
    obtain ⟨rfl, h5, hk5⟩ := h5
    have HR7 := Lib.hid (show r = .ok (⟨frm, seq, st, sv, ds, b, none, 0⟩, l6) from by rw [HR6.out]; exact andR_ok hv _)
    have hM5 := keep2 H4.out.1 hk5 HM.out.2.2.1
    have hkS : Kept (fun b => b = M) w5 (w5.setCell ⟨M, 5, none⟩ (.string b)) := keptS w5 ⟨M, 5, none⟩ _
    have ho5 := own_keptS H4.out.2.2.2.2 hk5 (fun b hb e => by have := (H4.out.2.2.2.2.lt b hb).1; have := HNR.out.2.2.1; omega)
    have hNw := HNR.out.2.2.2
    have H5 := Lib.hid (And.intro (setCell_block hM5 5 (.string b)) (And.intro (h5.kept hkS (fun e => HM.out.2.2.1 e.symm)) (And.intro (((H4.out.2.1.trans hk5).above hkS (fun k hk => by omega)) : KR R w _) (And.intro (hkS.keep (keep2 H4.out.2.2.2.1 hk5 HNR.out.2.1) (by omega)) (own_keptS ho5 hkS (fun b hb e => by have := (ho5.lt b hb).1; omega))))))
    have d5 : w5.cell? ⟨M, 5, none⟩ = some (.string ⟨#[]⟩) := cell_of_row _ _ 5 _ _ _ hM5
    have f5 : w5.frozen? ⟨M, 5, none⟩ = false := frozen_of_row _ _ _ _ _ hM5
    clear hv hk5 HT c1 d1 d2 hM5 hkS ho5 h5 hNw hw
    go_upto_region 7 with (fail)
    obtain ⟨w6, hw6⟩ : ∃ w6, w6 = w5.setCell ⟨M, 5, none⟩ (.string b) := ⟨_, rfl⟩
    rw [← hw6] at H5
    rw [← hw6]
    clear hw6 d5 f5
    have hNw := HNR.out.2.2.2
    have hk6 := kept_setRow' w6 (N + 1) #[.int .i64 frm, .int .u32 (seq : Int), .int .u64 (st : Int), .int .i64 (sv : Int), .slice ad ds.length cap, .string b]
    have HE := Lib.hid (show MsgEnd R s w r (.returned (.agg #[.int .i64 frm, .int .u32 (seq : Int), .int .u64 (st : Int), .int .i64 (sv : Int), .slice ad ds.length cap, .string b])) (w6.setRow (N + 1) #[.int .i64 frm, .int .u32 (seq : Int), .int .u64 (st : Int), .int .i64 (sv : Int), .slice ad ds.length cap, .string b]) from by
      rw [HR7.out]
      refine ⟨⟨ad, cap, rfl, ?_⟩, H5.out.2.1.kept hk6 (fun e => HNR.out.2.1 e.symm), H5.out.2.2.1.above hk6 (fun k hk => by omega)⟩
      exact ownMore (own_keptS H5.out.2.2.2.2 hk6 (fun b hb e => by have := (H5.out.2.2.2.2.lt b hb).1; omega)) (by omega))
    clear hk6 hNw
    go_wp2_with (first
      | (refine wpList_load_row rfl 32 (.tmp 5) rfl M rfl 32 #[.int .i64 frm, .int .u32 (seq : Int), .int .u64 (st : Int), .int .i64 (sv : Int), .slice ad ds.length cap, .string b] (0, 0) _ H5.out.1 Try.underlying32 rfl (by kernel_rfl) ?_)
      | (refine wpList_store_row rfl 32 (.tmp 4) (.tmp 39) rfl (N + 1) #[.int .i64 frm, .int .u32 (seq : Int), .int .u64 (st : Int), .int .i64 (sv : Int), .slice ad ds.length cap, .string b] rfl rfl 32 _ H5.out.2.2.2.1 (by kernel_rfl) rfl (by simp [Value.oneCell']) ?_))
    refine bodyPost_ret (results_cell_row Try.results46 _ _ (N + 1) 32 #[.int .i64 frm, .int .u32 (seq : Int), .int .u64 (st : Int), .int .i64 (sv : Int), .slice ad ds.length cap, .string b] (0, 0) _ rfl (setRow_heap _ _ _ _ _ _ H5.out.2.2.2.1) Try.underlying32 rfl (by kernel_rfl)) rfl ?_
    exact HE.out
end Go.Proofs.Ytgpojbmloielmaa
