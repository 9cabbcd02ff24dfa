/-
  What a body's reader reads of the fields of a kind.
  Conditions: those that each theorem names.
-/
import Derived.Test.YtgpojbmloielmaaReadE
import Derived.Test.YtgpojbmloielmaaPackN
namespace Go.Proofs.Ytgpojbmloielmaa
set_option linter.unusedVariables false
set_option linter.unusedSimpArgs false
open Go.RowKit
def finR (q : Pkt) (l : List UInt8) : Except Int (Pkt × List UInt8) := if 0 < l.length then .error 4 else .ok (q, l)
def rdK1 (z : Pkt) (l : List UInt8) := andR (rdMsg z.frm l) fun m l => finR { z with m := m } l
def rdK2 (z : Pkt) (l : List UInt8) := andR (rdN 8 l) fun a l => andR (rdN 4 l) fun b l => andR (rdVec l) fun g l => andR (rdN 8 l) fun h l => finR { z with stamp := a, sent := b, got := g, hor := h } l
def rdK3 (z : Pkt) (l : List UInt8) := andR (rdProc l) fun a l => andR (rdN 4 l) fun b l => finR { z with whom := (a : Int), seq := b } l
def rdK4 (z : Pkt) (l : List UInt8) := andR (rdConf l) fun a l => andR (rdN 8 l) fun b l => andR (rdN 8 l) fun g l => finR { z with pe := a.1, pr := (a.2 : Int), epoch := b, mem := g } l
def rdK5 (z : Pkt) (l : List UInt8) := andR (rdN 8 l) fun a l => finR { z with mem := a } l
def rdK6 (z : Pkt) (l : List UInt8) := andR (rdEx l) fun x l => finR { z with xs := [x] } l
def rdExs : Nat → List UInt8 → Except Int (List Exch × List UInt8)
  | 0, l => .ok ([], l)
  | n + 1, l => andR (rdEx l) fun x l => andR (rdExs n l) fun xs l => .ok (x :: xs, l)
def rdK7 (z : Pkt) (l : List UInt8) := andR (rdN 8 l) fun a l => andR (rdN 1 l) fun n l => if 64 < n then .error 3 else andR (rdExs n l) fun xs l => finR { z with mem := a, xs := xs } l
def rdK9 (z : Pkt) (l : List UInt8) := andR (rdProc l) fun a l => andR (rdMsg (a : Int) l) fun m l => finR { z with whom := (a : Int), m := m } l
def rdKind (k : Int) (z : Pkt) (l : List UInt8) : Except Int (Pkt × List UInt8) :=
  if k = 1 then rdK1 z l else if k = 2 then rdK2 z l else if k = 3 then rdK3 z l else if k = 4 then rdK4 z l else if k = 5 then rdK5 z l else if k = 6 then rdK6 z l else if k = 7 then rdK7 z l
  else if k = 8 then rdK3 z l else if k = 9 then rdK9 z l else finR z l
def rdBody (k f t : Int) (l : List UInt8) : Except Int (Pkt × List UInt8) := andR (rdConf l) fun c l => rdKind k { zeroP with kind := k, frm := f, dst := t, ce := c.1, cr := (c.2 : Int) } l
def KP (R Pb : Nat) (w w' : World) : Prop := Kept (fun b => b = R ∨ b = Pb) w w'
theorem KP.refl (R Pb : Nat) (w : World) : KP R Pb w w := Kept.refl _ _
theorem KP.kr {R Pb : Nat} {w w1 w2 : World} (h : KP R Pb w w1) (hk : KR R w1 w2) : KP R Pb w w2 := Kept.trans h ⟨hk.os, hk.tape, hk.output, hk.size, fun i hi hs => hk.block i hi (fun e => hs (.inl e))⟩
theorem KP.st {R Pb : Nat} {w w1 : World} (h : KP R Pb w w1) (j : Nat) (v : Value) : KP R Pb w (w1.setCell ⟨Pb, j, none⟩ v) := Kept.trans h ⟨rfl, rfl, rfl, by simp [World.setCell], fun i hi hs => heap_setCell_other w1 ⟨Pb, j, none⟩ i v (fun e => hs (.inr e))⟩
/-- what the fields' reading leaves -/
def FldEnd (R Pb : Nat) (s : ByteArray) (w : World) (r : Except Int (Pkt × List UInt8)) (e : Ending) (w' : World) : Prop := match r with
  | .ok x => e = .returned (.tuple #[]) ∧ KP R Pb w w' ∧ ∃ q, w'.heap[Pb]? = some (.cells (pktA q) 35 (0, 0)) ∧ coreP q = coreP x.1 ∧ OwnPk w.heap.size w' q
  | .error c => e = .panicked (panL c) ∧ KP R Pb w w' ∧ ∃ q, w'.heap[Pb]? = some (.cells (pktA q) 35 (0, 0))
theorem fldErr {R Pb : Nat} {s : ByteArray} {w w' : World} {r : Except Int (Pkt × List UInt8)} {c : Int} {q : Pkt} (hr : r = .error c) (hk : KP R Pb w w') (hp : w'.heap[Pb]? = some (.cells (pktA q) 35 (0, 0))) : FldEnd R Pb s w r (.panicked (panL c)) w' := by subst hr; exact ⟨rfl, hk, q, hp⟩
theorem OwnN.kr {B R : Nat} {w w' : World} {da : Option Addr} {ds : List Nat} {dc : Nat} (h : OwnN B w da ds dc) (hk : KR R w w') (hR : R < B) : OwnN B w' da ds dc := own_keptS h hk (fun b hb e => by have := (h.lt b hb).1; omega)
theorem OwnN.st {B Pb : Nat} {w : World} {da : Option Addr} {ds : List Nat} {dc : Nat} (h : OwnN B w da ds dc) (hP : Pb < B) (j : Nat) (v : Value) : OwnN B (w.setCell ⟨Pb, j, none⟩ v) da ds dc := own_keptS h (keptS w ⟨Pb, j, none⟩ v) (fun b hb e => by have := (h.lt b hb).1; simp at e; omega)
theorem OwnN.nil (B : Nat) (w : World) : OwnN B w none [] 0 := ⟨rfl, .inl ⟨rfl, rfl⟩⟩
theorem own_zero (B : Nat) (w : World) : OwnPk B w zeroP := ⟨.nil B w, .nil B w, ⟨rfl, .inl ⟨rfl, rfl⟩⟩, fun x hx => by cases hx⟩
theorem left_rd {w : World} {R : Nat} {s : ByteArray} {l : List UInt8} (h : RdL w R s l) :
    Calls Try.prog 42 #[.pointer (some ⟨R, 0, none⟩)] w fun e w' => e = .returned (.int .i64 (l.length : Int)) ∧ Below w.heap.size w w' := by
  obtain ⟨p, hr, hp, rfl, hs⟩ := h
  have hlen : (s.data.toList.drop p).length = s.size - p := by rw [List.length_drop]; rfl
  refine (Left_any R s p w hr (by omega) hp).mono ?_
  rintro e w' ⟨rfl, q, rfl⟩
  refine ⟨?_, bn (br w) q⟩
  congr 2
  rw [hlen]
  omega
set_option maxRecDepth 100000 in
set_option maxHeartbeats 16000000 in
theorem fld1_rd {w : World} {R Pb : Nat} {s : ByteArray} {l0 : List UInt8} (h : RdL w R s l0) (f t : Int) (hp : w.heap[Pb]? = some (.cells (pktA { zeroP with kind := 1, frm := f, dst := t }) 35 (0, 0))) (hne : Pb ≠ R) :
    Calls Try.prog 23 #[.agg #[.pointer (some ⟨R, 0, none⟩)], .pointer (some ⟨Pb, 0, none⟩)] w fun e w' => FldEnd R Pb s w (rdBody 1 f t l0) e w' := by
  obtain ⟨N, hN⟩ : ∃ N, N = w.heap.size := ⟨_, rfl⟩
  obtain ⟨v0, hW⟩ : ∃ v0, v0 = w.alloc (.cells #[.pointer (some ⟨R, 0, none⟩)] 63) := ⟨_, rfl⟩
  have hbA := ba (br w) (.cells #[.pointer (some ⟨R, 0, none⟩)] 63)
  have n1 := heap_alloc_new w (.cells #[.pointer (some ⟨R, 0, none⟩)] 63)
  rw [← hW] at n1 hbA
  rw [← hN] at n1
  have hPl := (Array.getElem?_eq_some_iff.1 hp).1
  have HB := Lib.hid (show N ≠ R ∧ N ≠ Pb ∧ R < w.heap.size ∧ Pb < w.heap.size ∧ N = w.heap.size ∧ Pb ≠ R from ⟨by have := h.lt; omega, by omega, h.lt, hPl, hN, hne⟩)
  have c0 : v0.cell? ⟨N, 0, none⟩ = some (.pointer (some ⟨R, 0, none⟩)) := cell_of_row _ _ 0 _ _ _ n1
  have HS0 := Lib.hid (h.below hbA)
  have HW0 := Lib.hid (And.intro ((KP.refl R Pb w).kr (KR.below hbA)) (And.intro n1 ((hbA.block _ hPl).trans hp)))
  obtain ⟨r, hr⟩ : ∃ r, r = rdBody 1 f t l0 := ⟨_, rfl⟩
  rw [← hr]
  have HR0 := Lib.hid hr
  clear n1 hbA h hr hp hne hPl
  go_enter Try.func23, Try.ntmps23
  go_upto_region 1 with (fail)
  rw [← hW, ← hN]
  clear hW hN
  have c0 : v0.cell? ⟨N, 0, none⟩ = some (.pointer (some ⟨R, 0, none⟩)) := cell_of_row _ _ 0 _ _ _ HW0.out.2.1
  have HC := Lib.hid (conf_rd HS0.out)
  go_wp2_with fail
  refine HC.out.mono ?_
  intro e v1 h1
  rcases hn : rdConf l0 with c | ⟨c1, l1⟩
  · rw [hn] at h1
    obtain ⟨rfl, hk⟩ := h1
    have HE := Lib.hid (fldErr (s := s) (show r = .error c from by rw [HR0.out]; exact andR_err hn _) (HW0.out.1.kr hk) (keep2 HW0.out.2.2 hk HB.out.2.2.2.2.2))
    clear hn hk HC
    (try simp only [Exit.inBlock, Exit.then])
    exact bodyPost_pan (P := Try.prog) (fn := Try.f23) rfl HE.out
  rw [hn] at h1
  obtain ⟨rfl, h1, hk⟩ := h1
  have HR1 := Lib.hid (show r = rdK1 { zeroP with kind := 1, frm := f, dst := t, ce := c1.1, cr := (c1.2 : Int) } l1 from by rw [HR0.out]; exact andR_ok hn _)
  have HW1 := Lib.hid (And.intro (HW0.out.1.kr hk) (And.intro (keep2 HW0.out.2.1 hk HB.out.1) (keep2 HW0.out.2.2 hk HB.out.2.2.2.2.2)))
  have HS1 := Lib.hid h1
  clear hk h1 hn HC
  clear c0
  have c0 : v1.cell? ⟨N, 0, none⟩ = some (.pointer (some ⟨R, 0, none⟩)) := cell_of_row _ _ 0 _ _ _ HW1.out.2.1
  have d3 : v1.cell? ⟨Pb, 3, none⟩ = some (.int .u64 0) := cell_of_row _ _ 3 _ _ _ HW1.out.2.2
  have f3 : v1.frozen? ⟨Pb, 3, none⟩ = false := frozen_of_row _ _ _ _ _ HW1.out.2.2
  have d4 : v1.cell? ⟨Pb, 4, none⟩ = some (.int .i64 0) := cell_of_row _ _ 4 _ _ _ HW1.out.2.2
  have f4 : v1.frozen? ⟨Pb, 4, none⟩ = false := frozen_of_row _ _ _ _ _ HW1.out.2.2
  go_upto_region 2 with (fail)
  obtain ⟨v2, hV⟩ : ∃ v2, v2 = ((v1.setCell ⟨Pb, 3, none⟩ (.int .u64 (c1.1 : Int))).setCell ⟨Pb, 4, none⟩ (.int .i64 (c1.2 : Int))) := ⟨_, rfl⟩
  have HW2 := Lib.hid (show KP R Pb w v2 ∧ v2.heap[N]? = some (.cells #[.pointer (some ⟨R, 0, none⟩)] 63 (0, 0)) ∧ v2.heap[Pb]? = some (.cells (pktA { zeroP with kind := 1, frm := f, dst := t, ce := c1.1, cr := (c1.2 : Int) }) 35 (0, 0)) from by
    rw [hV]
    refine ⟨((((HW1.out.1).st 3 (.int .u64 (c1.1 : Int)))).st 4 (.int .i64 (c1.2 : Int))), ?_, (setCell_block ((setCell_block (HW1.out.2.2) 3 (.int .u64 (c1.1 : Int)))) 4 (.int .i64 (c1.2 : Int)))⟩
    exact ((keptS _ ⟨Pb, 4, none⟩ (.int .i64 (c1.2 : Int))).keep (((keptS _ ⟨Pb, 3, none⟩ (.int .u64 (c1.1 : Int))).keep (HW1.out.2.1) HB.out.2.1)) HB.out.2.1))
  have HS2 := Lib.hid (show RdL v2 R s l1 from by rw [hV]; exact (RdL.kept ((RdL.kept (HS1.out) (keptS _ ⟨Pb, 3, none⟩ (.int .u64 (c1.1 : Int))) (fun e => HB.out.2.2.2.2.2 e.symm))) (keptS _ ⟨Pb, 4, none⟩ (.int .i64 (c1.2 : Int))) (fun e => HB.out.2.2.2.2.2 e.symm)))
  have HR2 := HR1
  rw [← hV]
  clear hV c0 d3 f3 d4 f4
  have q0 : v2.cell? ⟨Pb, 0, none⟩ = some (.int .i64 1) := cell_of_row _ _ 0 _ _ _ HW2.out.2.2
  go_upto_region 4 with (fail)
  clear q0
  have c0 : v2.cell? ⟨N, 0, none⟩ = some (.pointer (some ⟨R, 0, none⟩)) := cell_of_row _ _ 0 _ _ _ HW2.out.2.1
  have p1 : v2.cell? ⟨Pb, 1, none⟩ = some (.int .i64 f) := cell_of_row _ _ 1 _ _ _ HW2.out.2.2
  have HC := Lib.hid (msg_rd HS2.out (f))
  go_upto_region 4 with (fail)
  have HS3 := Lib.hid (HS2.out.below (br v2).drew)
  have HW3 := Lib.hid (show KP R Pb w v2.drew ∧ _ ∧ _ from And.intro (HW2.out.1.kr (KR.below (br v2).drew)) (And.intro (show v2.drew.heap[N]? = _ from HW2.out.2.1) (show v2.drew.heap[Pb]? = _ from HW2.out.2.2)))
  have HR3 := HR2
  clear HC
  refine wp_region_maskP (fun w' => w'.cell? ⟨N, 0, none⟩ = some (.pointer (some ⟨R, 0, none⟩)) ∧ w'.cell? ⟨Pb, 1, none⟩ = some (.int .i64 f)) 9 4 [true, true, true, true, true, true, false, false, false, false] #[true, true, true, true, true, true, false, false, false, false] (by kernel_rfl) (by kernel_rfl) (by kernel_rfl) (fun c a d v w h => by cases d <;> exact h) ⟨cell_of_row _ _ 0 _ _ _ HW3.out.2.1, cell_of_row _ _ 1 _ _ _ HW3.out.2.2⟩ ?_
  clear c0 p1
  generalize v2.drew = v3 at *
  have HC := Lib.hid (msg_rd HS3.out (f))
  refine wpMask_take _ (Or.inl ⟨by rfl, fun w' hS => by (try dsimp only at hS); go_simp; try with_reducible rfl⟩) ?_
  simp only [Act.put, List.setIfInBounds_toArray, List.set_cons_zero, List.set_cons_succ]
  refine wpMask_take _ (Or.inl ⟨by rfl, fun w' hS => by (try dsimp only at hS); go_simp; try with_reducible rfl⟩) ?_
  simp only [Act.put, List.setIfInBounds_toArray, List.set_cons_zero, List.set_cons_succ]
  refine wpMask_take _ (Or.inl ⟨by rfl, fun w' hS => by (try dsimp only at hS); go_simp; try with_reducible rfl⟩) ?_
  simp only [Act.put, List.setIfInBounds_toArray, List.set_cons_zero, List.set_cons_succ]
  refine wpMask_take _ (Or.inl ⟨by rfl, fun w' hS => by (try dsimp only at hS); go_simp; try with_reducible rfl⟩) ?_
  simp only [Act.put, List.setIfInBounds_toArray, List.set_cons_zero, List.set_cons_succ]
  refine wpMask_take _ (Or.inl ⟨by rfl, fun w' hS => by (try dsimp only at hS); go_simp; try with_reducible rfl⟩) ?_
  simp only [Act.put, List.setIfInBounds_toArray, List.set_cons_zero, List.set_cons_succ]
  refine wpMask_take _ (Or.inl ⟨by rfl, fun w' hS => by (try dsimp only at hS); go_simp; try with_reducible rfl⟩) ?_
  simp only [Act.put, List.setIfInBounds_toArray, List.set_cons_zero, List.set_cons_succ]
  refine wpMask_skip (wpMask_skip (wpMask_skip (wpMask_skip (wpMask_nil ?_))))
  refine wpAnyS_ready (rs := [6]) (by kernel_rfl) (by simp) ?_
  refine AllReadyS.cons rfl (fun K hK => ?_) AllReadyS.nil
  go_simp
  refine HC.out.mono ?_
  intro e v4 h1
  rcases hn : rdMsg (f) l1 with c | ⟨m, l4⟩
  · rw [hn] at h1
    obtain ⟨rfl, hk⟩ := h1
    have HE := Lib.hid (fldErr (s := s) (show r = .error c from by rw [HR3.out]; exact andR_err hn _) (HW3.out.1.kr hk) (keep2 HW3.out.2.2 hk HB.out.2.2.2.2.2))
    clear hn hk HC
    (try simp only [Exit.inBlock, Exit.then])
    exact bodyPost_pan (P := Try.prog) (fn := Try.f23) rfl HE.out
  rw [hn] at h1
  obtain ⟨⟨ad, cap, rfl, ho⟩, h1, hk⟩ := h1
  have HR4 := Lib.hid (show r = finR { ({ zeroP with kind := 1, frm := f, dst := t, ce := c1.1, cr := (c1.2 : Int) } : Pkt) with m := m } l4 from by rw [HR3.out]; exact andR_ok hn _)
  have HW4 := Lib.hid (And.intro (HW3.out.1.kr hk) (And.intro (keep2 HW3.out.2.1 hk HB.out.1) (keep2 HW3.out.2.2 hk HB.out.2.2.2.2.2)))
  have HS4 := Lib.hid h1
  have HO1 := Lib.hid (show OwnN w.heap.size v4 ad m.ds cap from ownMore ho HW3.out.1.size)
  clear ho
  clear hk h1 hn HC
  refine hK.out _ _ (fun _ => ⟨cell_of_row _ _ 0 _ _ _ HW4.out.2.1, cell_of_row _ _ 1 _ _ _ HW4.out.2.2⟩) ?_
  clear hK K
  simp only [Act.put, List.setIfInBounds_toArray, List.set_cons_zero, List.set_cons_succ]
  refine wpAnyS_ready (rs := [7]) (by kernel_rfl) (by simp) ?_
  refine AllReadyS.cons rfl (fun K hK => ?_) AllReadyS.nil
  go_simp
  refine hK.out _ _ (fun _ => ⟨cell_of_row _ _ 0 _ _ _ HW4.out.2.1, cell_of_row _ _ 1 _ _ _ HW4.out.2.2⟩) ?_
  clear hK K
  simp only [Act.put, List.setIfInBounds_toArray, List.set_cons_zero, List.set_cons_succ]
  refine wpAnyS_ready (rs := [8]) (by kernel_rfl) (by simp) ?_
  refine AllReadyS.cons rfl (fun K hK => ?_) AllReadyS.nil
  go_simp
  refine hK.out _ _ (fun _ => ⟨cell_of_row _ _ 0 _ _ _ HW4.out.2.1, cell_of_row _ _ 1 _ _ _ HW4.out.2.2⟩) ?_
  clear hK K
  simp only [Act.put, List.setIfInBounds_toArray, List.set_cons_zero, List.set_cons_succ]
  refine wpAnyS_ready (rs := [9]) (by kernel_rfl) (by simp) ?_
  refine AllReadyS.cons rfl (fun K hK => ?_) AllReadyS.nil
  have d5 : v4.cell? ⟨Pb, 5, none⟩ = some (.int .i64 0) := cell_of_row _ _ 5 _ _ _ HW4.out.2.2
  have f5 : v4.frozen? ⟨Pb, 5, none⟩ = false := frozen_of_row _ _ _ _ _ HW4.out.2.2
  have d6 : v4.cell? ⟨Pb, 6, none⟩ = some (.int .u32 0) := cell_of_row _ _ 6 _ _ _ HW4.out.2.2
  have f6 : v4.frozen? ⟨Pb, 6, none⟩ = false := frozen_of_row _ _ _ _ _ HW4.out.2.2
  have d7 : v4.cell? ⟨Pb, 7, none⟩ = some (.int .u64 0) := cell_of_row _ _ 7 _ _ _ HW4.out.2.2
  have f7 : v4.frozen? ⟨Pb, 7, none⟩ = false := frozen_of_row _ _ _ _ _ HW4.out.2.2
  have d8 : v4.cell? ⟨Pb, 8, none⟩ = some (.int .i64 0) := cell_of_row _ _ 8 _ _ _ HW4.out.2.2
  have f8 : v4.frozen? ⟨Pb, 8, none⟩ = false := frozen_of_row _ _ _ _ _ HW4.out.2.2
  have d9 : v4.cell? ⟨Pb, 9, none⟩ = some (.slice none 0 0) := cell_of_row _ _ 9 _ _ _ HW4.out.2.2
  have f9 : v4.frozen? ⟨Pb, 9, none⟩ = false := frozen_of_row _ _ _ _ _ HW4.out.2.2
  have d10 : v4.cell? ⟨Pb, 10, none⟩ = some (.string ⟨#[]⟩) := cell_of_row _ _ 10 _ _ _ HW4.out.2.2
  have f10 : v4.frozen? ⟨Pb, 10, none⟩ = false := frozen_of_row _ _ _ _ _ HW4.out.2.2
  rw [show msgA { m with da := ad, dc := cap } = #[.int .i64 m.frm, .int .u32 (m.seq : Int), .int .u64 (m.stamp : Int), .int .i64 m.service, .slice ad m.ds.length cap, .string m.pay] from rfl]
  go_simp
  obtain ⟨v5, hV⟩ : ∃ v5, v5 = ((((((v4.setCell ⟨Pb, 5, none⟩ (.int .i64 m.frm)).setCell ⟨Pb, 6, none⟩ (.int .u32 (m.seq : Int))).setCell ⟨Pb, 7, none⟩ (.int .u64 (m.stamp : Int))).setCell ⟨Pb, 8, none⟩ (.int .i64 m.service)).setCell ⟨Pb, 9, none⟩ (.slice ad m.ds.length cap)).setCell ⟨Pb, 10, none⟩ (.string m.pay)) := ⟨_, rfl⟩
  have HW5 := Lib.hid (show KP R Pb w v5 ∧ v5.heap[N]? = some (.cells #[.pointer (some ⟨R, 0, none⟩)] 63 (0, 0)) ∧ v5.heap[Pb]? = some (.cells (pktA { zeroP with kind := 1, frm := f, dst := t, ce := c1.1, cr := (c1.2 : Int), m := { m with da := ad, dc := cap } }) 35 (0, 0)) from by
    rw [hV]
    refine ⟨((((((((((((HW4.out.1).st 5 (.int .i64 m.frm))).st 6 (.int .u32 (m.seq : Int)))).st 7 (.int .u64 (m.stamp : Int)))).st 8 (.int .i64 m.service))).st 9 (.slice ad m.ds.length cap))).st 10 (.string m.pay)), ?_, (setCell_block ((setCell_block ((setCell_block ((setCell_block ((setCell_block ((setCell_block (HW4.out.2.2) 5 (.int .i64 m.frm))) 6 (.int .u32 (m.seq : Int)))) 7 (.int .u64 (m.stamp : Int)))) 8 (.int .i64 m.service))) 9 (.slice ad m.ds.length cap))) 10 (.string m.pay))⟩
    exact ((keptS _ ⟨Pb, 10, none⟩ (.string m.pay)).keep (((keptS _ ⟨Pb, 9, none⟩ (.slice ad m.ds.length cap)).keep (((keptS _ ⟨Pb, 8, none⟩ (.int .i64 m.service)).keep (((keptS _ ⟨Pb, 7, none⟩ (.int .u64 (m.stamp : Int))).keep (((keptS _ ⟨Pb, 6, none⟩ (.int .u32 (m.seq : Int))).keep (((keptS _ ⟨Pb, 5, none⟩ (.int .i64 m.frm)).keep (HW4.out.2.1) HB.out.2.1)) HB.out.2.1)) HB.out.2.1)) HB.out.2.1)) HB.out.2.1)) HB.out.2.1))
  have HS5 := Lib.hid (show RdL v5 R s l4 from by rw [hV]; exact (RdL.kept ((RdL.kept ((RdL.kept ((RdL.kept ((RdL.kept ((RdL.kept (HS4.out) (keptS _ ⟨Pb, 5, none⟩ (.int .i64 m.frm)) (fun e => HB.out.2.2.2.2.2 e.symm))) (keptS _ ⟨Pb, 6, none⟩ (.int .u32 (m.seq : Int))) (fun e => HB.out.2.2.2.2.2 e.symm))) (keptS _ ⟨Pb, 7, none⟩ (.int .u64 (m.stamp : Int))) (fun e => HB.out.2.2.2.2.2 e.symm))) (keptS _ ⟨Pb, 8, none⟩ (.int .i64 m.service)) (fun e => HB.out.2.2.2.2.2 e.symm))) (keptS _ ⟨Pb, 9, none⟩ (.slice ad m.ds.length cap)) (fun e => HB.out.2.2.2.2.2 e.symm))) (keptS _ ⟨Pb, 10, none⟩ (.string m.pay)) (fun e => HB.out.2.2.2.2.2 e.symm)))
  have HO2 := Lib.hid (by have := ((((((((((((HO1.out).st HB.out.2.2.2.1 5 (.int .i64 m.frm))).st HB.out.2.2.2.1 6 (.int .u32 (m.seq : Int)))).st HB.out.2.2.2.1 7 (.int .u64 (m.stamp : Int)))).st HB.out.2.2.2.1 8 (.int .i64 m.service))).st HB.out.2.2.2.1 9 (.slice ad m.ds.length cap))).st HB.out.2.2.2.1 10 (.string m.pay)); rw [← hV] at this; exact this)
  have HR5 := HR4
  rw [← hV]
  refine hK.out _ _ (fun _ => ⟨cell_of_row _ _ 0 _ _ _ HW5.out.2.1, cell_of_row _ _ 1 _ _ _ HW5.out.2.2⟩) ?_
  clear hK K hV d5 f5 d6 f6 d7 f7 d8 f8 d9 f9 d10 f10
  simp only [Act.put, List.setIfInBounds_toArray, List.set_cons_zero, List.set_cons_succ]
  refine wpAnyS_doneP (by kernel_rfl) ?_ _
  have c0 : v5.cell? ⟨N, 0, none⟩ = some (.pointer (some ⟨R, 0, none⟩)) := cell_of_row _ _ 0 _ _ _ HW5.out.2.1
  have HC := Lib.hid (left_rd HS5.out)
  go_upto_region 30 with (fail)
  go_wp2_with fail
  refine HC.out.mono ?_
  rintro e v6 ⟨rfl, hb⟩
  have HW := Lib.hid (And.intro (HW5.out.1.kr (KR.below hb)) ((hb.block _ (Array.getElem?_eq_some_iff.1 HW5.out.2.2).1).trans HW5.out.2.2))
  have HO := Lib.hid (show OwnPk w.heap.size v6 { zeroP with kind := 1, frm := f, dst := t, ce := c1.1, cr := (c1.2 : Int), m := { m with da := ad, dc := cap } } from ⟨.nil _ _, (HO2.out.below hb), ⟨rfl, .inl ⟨rfl, rfl⟩⟩, fun x hx => by cases hx⟩)
  clear hb c0 HC
  by_cases h4 : 0 < l4.length
  · have HE := Lib.hid (fldErr (s := s) (show r = .error 4 from by rw [HR5.out]; exact if_pos h4) HW.out.1 HW.out.2)
    have d1 : decide (0 < l4.length) = true := by rw [decide_eq_true_eq]; exact h4
    have d2 : decide ((0 : Int) < (l4.length : Int)) = true := by rw [decide_eq_true_eq]; omega
    clear h4
    go_wp2_with (go_at_call 50; refine (bad_so 4 _).mono ?_; rintro e w' ⟨rfl, rfl⟩)
    exact bodyPost_pan rfl HE.out
  · have HE := Lib.hid (show FldEnd R Pb s w r (.returned (.tuple #[])) v6 from by
      rw [show r = .ok ({ ({ zeroP with kind := 1, frm := f, dst := t, ce := c1.1, cr := (c1.2 : Int) } : Pkt) with m := m }, l4) from by rw [HR5.out]; exact if_neg h4]
      exact ⟨rfl, HW.out.1, _, HW.out.2, rfl, HO.out⟩)
    have d1 : decide (0 < l4.length) = false := by rw [decide_eq_false_iff_not]; exact h4
    have d2 : decide ((0 : Int) < (l4.length : Int)) = false := by rw [decide_eq_false_iff_not]; omega
    clear h4
    go_wp2_with (go_at_call 50; refine (bad_no 4 _).mono ?_; rintro e w' ⟨rfl, rfl⟩)
    go_end0
    exact HE.out
set_option maxRecDepth 100000 in
set_option maxHeartbeats 16000000 in
theorem fld2_rd {w : World} {R Pb : Nat} {s : ByteArray} {l0 : List UInt8} (h : RdL w R s l0) (f t : Int) (hp : w.heap[Pb]? = some (.cells (pktA { zeroP with kind := 2, frm := f, dst := t }) 35 (0, 0))) (hne : Pb ≠ R) :
    Calls Try.prog 23 #[.agg #[.pointer (some ⟨R, 0, none⟩)], .pointer (some ⟨Pb, 0, none⟩)] w fun e w' => FldEnd R Pb s w (rdBody 2 f t l0) e w' := by
  obtain ⟨N, hN⟩ : ∃ N, N = w.heap.size := ⟨_, rfl⟩
  obtain ⟨v0, hW⟩ : ∃ v0, v0 = w.alloc (.cells #[.pointer (some ⟨R, 0, none⟩)] 63) := ⟨_, rfl⟩
  have hbA := ba (br w) (.cells #[.pointer (some ⟨R, 0, none⟩)] 63)
  have n1 := heap_alloc_new w (.cells #[.pointer (some ⟨R, 0, none⟩)] 63)
  rw [← hW] at n1 hbA
  rw [← hN] at n1
  have hPl := (Array.getElem?_eq_some_iff.1 hp).1
  have HB := Lib.hid (show N ≠ R ∧ N ≠ Pb ∧ R < w.heap.size ∧ Pb < w.heap.size ∧ N = w.heap.size ∧ Pb ≠ R from ⟨by have := h.lt; omega, by omega, h.lt, hPl, hN, hne⟩)
  have c0 : v0.cell? ⟨N, 0, none⟩ = some (.pointer (some ⟨R, 0, none⟩)) := cell_of_row _ _ 0 _ _ _ n1
  have HS0 := Lib.hid (h.below hbA)
  have HW0 := Lib.hid (And.intro ((KP.refl R Pb w).kr (KR.below hbA)) (And.intro n1 ((hbA.block _ hPl).trans hp)))
  obtain ⟨r, hr⟩ : ∃ r, r = rdBody 2 f t l0 := ⟨_, rfl⟩
  rw [← hr]
  have HR0 := Lib.hid hr
  clear n1 hbA h hr hp hne hPl
  go_enter Try.func23, Try.ntmps23
  go_upto_region 1 with (fail)
  rw [← hW, ← hN]
  clear hW hN
  have c0 : v0.cell? ⟨N, 0, none⟩ = some (.pointer (some ⟨R, 0, none⟩)) := cell_of_row _ _ 0 _ _ _ HW0.out.2.1
  have HC := Lib.hid (conf_rd HS0.out)
  go_wp2_with fail
  refine HC.out.mono ?_
  intro e v1 h1
  rcases hn : rdConf l0 with c | ⟨c1, l1⟩
  · rw [hn] at h1
    obtain ⟨rfl, hk⟩ := h1
    have HE := Lib.hid (fldErr (s := s) (show r = .error c from by rw [HR0.out]; exact andR_err hn _) (HW0.out.1.kr hk) (keep2 HW0.out.2.2 hk HB.out.2.2.2.2.2))
    clear hn hk HC
    (try simp only [Exit.inBlock, Exit.then])
    exact bodyPost_pan (P := Try.prog) (fn := Try.f23) rfl HE.out
  rw [hn] at h1
  obtain ⟨rfl, h1, hk⟩ := h1
  have HR1 := Lib.hid (show r = rdK2 { zeroP with kind := 2, frm := f, dst := t, ce := c1.1, cr := (c1.2 : Int) } l1 from by rw [HR0.out]; exact andR_ok hn _)
  have HW1 := Lib.hid (And.intro (HW0.out.1.kr hk) (And.intro (keep2 HW0.out.2.1 hk HB.out.1) (keep2 HW0.out.2.2 hk HB.out.2.2.2.2.2)))
  have HS1 := Lib.hid h1
  clear hk h1 hn HC
  clear c0
  have c0 : v1.cell? ⟨N, 0, none⟩ = some (.pointer (some ⟨R, 0, none⟩)) := cell_of_row _ _ 0 _ _ _ HW1.out.2.1
  have d3 : v1.cell? ⟨Pb, 3, none⟩ = some (.int .u64 0) := cell_of_row _ _ 3 _ _ _ HW1.out.2.2
  have f3 : v1.frozen? ⟨Pb, 3, none⟩ = false := frozen_of_row _ _ _ _ _ HW1.out.2.2
  have d4 : v1.cell? ⟨Pb, 4, none⟩ = some (.int .i64 0) := cell_of_row _ _ 4 _ _ _ HW1.out.2.2
  have f4 : v1.frozen? ⟨Pb, 4, none⟩ = false := frozen_of_row _ _ _ _ _ HW1.out.2.2
  go_upto_region 2 with (fail)
  obtain ⟨v2, hV⟩ : ∃ v2, v2 = ((v1.setCell ⟨Pb, 3, none⟩ (.int .u64 (c1.1 : Int))).setCell ⟨Pb, 4, none⟩ (.int .i64 (c1.2 : Int))) := ⟨_, rfl⟩
  have HW2 := Lib.hid (show KP R Pb w v2 ∧ v2.heap[N]? = some (.cells #[.pointer (some ⟨R, 0, none⟩)] 63 (0, 0)) ∧ v2.heap[Pb]? = some (.cells (pktA { zeroP with kind := 2, frm := f, dst := t, ce := c1.1, cr := (c1.2 : Int) }) 35 (0, 0)) from by
    rw [hV]
    refine ⟨((((HW1.out.1).st 3 (.int .u64 (c1.1 : Int)))).st 4 (.int .i64 (c1.2 : Int))), ?_, (setCell_block ((setCell_block (HW1.out.2.2) 3 (.int .u64 (c1.1 : Int)))) 4 (.int .i64 (c1.2 : Int)))⟩
    exact ((keptS _ ⟨Pb, 4, none⟩ (.int .i64 (c1.2 : Int))).keep (((keptS _ ⟨Pb, 3, none⟩ (.int .u64 (c1.1 : Int))).keep (HW1.out.2.1) HB.out.2.1)) HB.out.2.1))
  have HS2 := Lib.hid (show RdL v2 R s l1 from by rw [hV]; exact (RdL.kept ((RdL.kept (HS1.out) (keptS _ ⟨Pb, 3, none⟩ (.int .u64 (c1.1 : Int))) (fun e => HB.out.2.2.2.2.2 e.symm))) (keptS _ ⟨Pb, 4, none⟩ (.int .i64 (c1.2 : Int))) (fun e => HB.out.2.2.2.2.2 e.symm)))
  have HR2 := HR1
  rw [← hV]
  clear hV c0 d3 f3 d4 f4
  have q0 : v2.cell? ⟨Pb, 0, none⟩ = some (.int .i64 2) := cell_of_row _ _ 0 _ _ _ HW2.out.2.2
  go_upto_region 6 with (fail)
  clear q0
  have c0 : v2.cell? ⟨N, 0, none⟩ = some (.pointer (some ⟨R, 0, none⟩)) := cell_of_row _ _ 0 _ _ _ HW2.out.2.1
  have HC := Lib.hid (num_rd HS2.out 8 (by omega) (by omega))
  go_upto_region 6 with (fail)
  have HS3 := Lib.hid (HS2.out.below (br v2).drew)
  have HW3 := Lib.hid (show KP R Pb w v2.drew ∧ _ ∧ _ from And.intro (HW2.out.1.kr (KR.below (br v2).drew)) (And.intro (show v2.drew.heap[N]? = _ from HW2.out.2.1) (show v2.drew.heap[Pb]? = _ from HW2.out.2.2)))
  have HR3 := HR2
  clear HC
  refine wp_region_maskP (fun w' => w'.cell? ⟨N, 0, none⟩ = some (.pointer (some ⟨R, 0, none⟩))) 14 9 [true, true, true, true, false, true, true, false, false, false, false, false, false, false, false] #[true, true, true, true, false, true, true, false, false, false, false, false, false, false, false] (by kernel_rfl) (by kernel_rfl) (by kernel_rfl) (fun c a d v w h => by cases d <;> exact h) (cell_of_row _ _ 0 _ _ _ HW3.out.2.1) ?_
  clear c0
  generalize v2.drew = v3 at *
  have HC := Lib.hid (num_rd HS3.out 8 (by omega) (by omega))
  refine wpMask_take _ (Or.inl ⟨by rfl, fun w' hS => by (try dsimp only at hS); go_simp; try with_reducible rfl⟩) ?_
  simp only [Act.put, List.setIfInBounds_toArray, List.set_cons_zero, List.set_cons_succ]
  refine wpMask_take _ (Or.inl ⟨by rfl, fun w' hS => by (try dsimp only at hS); go_simp; try with_reducible rfl⟩) ?_
  simp only [Act.put, List.setIfInBounds_toArray, List.set_cons_zero, List.set_cons_succ]
  refine wpMask_take _ (Or.inl ⟨by rfl, fun w' hS => by (try dsimp only at hS); go_simp; try with_reducible rfl⟩) ?_
  simp only [Act.put, List.setIfInBounds_toArray, List.set_cons_zero, List.set_cons_succ]
  refine wpMask_take _ (Or.inl ⟨by rfl, fun w' hS => by (try dsimp only at hS); go_simp; try with_reducible rfl⟩) ?_
  simp only [Act.put, List.setIfInBounds_toArray, List.set_cons_zero, List.set_cons_succ]
  refine wpMask_skip ?_
  refine wpMask_take _ (Or.inl ⟨by rfl, fun w' hS => by (try dsimp only at hS); go_simp; try with_reducible rfl⟩) ?_
  simp only [Act.put, List.setIfInBounds_toArray, List.set_cons_zero, List.set_cons_succ]
  refine wpMask_take _ (Or.inl ⟨by rfl, fun w' hS => by (try dsimp only at hS); go_simp; try with_reducible rfl⟩) ?_
  simp only [Act.put, List.setIfInBounds_toArray, List.set_cons_zero, List.set_cons_succ]
  refine wpMask_skip (wpMask_skip (wpMask_skip (wpMask_skip (wpMask_skip (wpMask_skip (wpMask_skip (wpMask_skip (wpMask_nil ?_))))))))
  refine wpAnyS_ready (rs := [4]) (by kernel_rfl) (by simp) ?_
  refine AllReadyS.cons rfl (fun K hK => ?_) AllReadyS.nil
  go_simp
  refine HC.out.mono ?_
  intro e v4 h1
  rcases hn : rdN 8 l1 with c | ⟨a, l4⟩
  · rw [hn] at h1
    obtain ⟨rfl, hk⟩ := h1
    have HE := Lib.hid (fldErr (s := s) (show r = .error c from by rw [HR3.out]; exact andR_err hn _) (HW3.out.1.kr hk) (keep2 HW3.out.2.2 hk HB.out.2.2.2.2.2))
    clear hn hk HC
    (try simp only [Exit.inBlock, Exit.then])
    exact bodyPost_pan (P := Try.prog) (fn := Try.f23) rfl HE.out
  rw [hn] at h1
  obtain ⟨rfl, h1, hk⟩ := h1
  have HR4 := Lib.hid (show r = andR (rdN 4 l4) fun b l => andR (rdVec l) fun g l => andR (rdN 8 l) fun h l => finR { ({ zeroP with kind := 2, frm := f, dst := t, ce := c1.1, cr := (c1.2 : Int) } : Pkt) with stamp := a, sent := b, got := g, hor := h } l from by rw [HR3.out]; exact andR_ok hn _)
  have HW4 := Lib.hid (And.intro (HW3.out.1.kr hk) (And.intro (keep2 HW3.out.2.1 hk HB.out.1) (keep2 HW3.out.2.2 hk HB.out.2.2.2.2.2)))
  have HS4 := Lib.hid h1
  clear hk h1 hn HC
  refine hK.out _ _ (fun _ => (cell_of_row _ _ 0 _ _ _ HW4.out.2.1)) ?_
  clear hK K
  simp only [Act.put, List.setIfInBounds_toArray, List.set_cons_zero, List.set_cons_succ]
  have HC := Lib.hid (num_rd HS4.out 4 (by omega) (by omega))
  refine wpAnyS_ready (rs := [7]) (by kernel_rfl) (by simp) ?_
  refine AllReadyS.cons rfl (fun K hK => ?_) AllReadyS.nil
  go_simp
  refine HC.out.mono ?_
  intro e v5 h1
  rcases hn : rdN 4 l4 with c | ⟨b, l5⟩
  · rw [hn] at h1
    obtain ⟨rfl, hk⟩ := h1
    have HE := Lib.hid (fldErr (s := s) (show r = .error c from by rw [HR4.out]; exact andR_err hn _) (HW4.out.1.kr hk) (keep2 HW4.out.2.2 hk HB.out.2.2.2.2.2))
    clear hn hk HC
    (try simp only [Exit.inBlock, Exit.then])
    exact bodyPost_pan (P := Try.prog) (fn := Try.f23) rfl HE.out
  rw [hn] at h1
  obtain ⟨rfl, h1, hk⟩ := h1
  have HR5 := Lib.hid (show r = andR (rdVec l5) fun g l => andR (rdN 8 l) fun h l => finR { ({ zeroP with kind := 2, frm := f, dst := t, ce := c1.1, cr := (c1.2 : Int) } : Pkt) with stamp := a, sent := b, got := g, hor := h } l from by rw [HR4.out]; exact andR_ok hn _)
  have HW5 := Lib.hid (And.intro (HW4.out.1.kr hk) (And.intro (keep2 HW4.out.2.1 hk HB.out.1) (keep2 HW4.out.2.2 hk HB.out.2.2.2.2.2)))
  have HS5 := Lib.hid h1
  have hw : IntKind.u32.wrap (b : Int) = (b : Int) := by have := (rdN_lt (by omega) hn).1; rw [IntKind.wrap_u32]; simp at this; omega
  clear hk h1 hn HC
  refine hK.out _ _ (fun _ => (cell_of_row _ _ 0 _ _ _ HW5.out.2.1)) ?_
  clear hK K
  simp only [Act.put, List.setIfInBounds_toArray, List.set_cons_zero, List.set_cons_succ]
  refine wpAnyS_takeP (i := 8) _ (fun c a d v w h => by cases d <;> exact h) rfl (by kernel_rfl) (Or.inl ⟨by rfl, fun w' hS => by (try dsimp only at hS); go_simp; try with_reducible rfl⟩) (cell_of_row _ _ 0 _ _ _ HW5.out.2.1) ?_
  simp only [Act.put, List.setIfInBounds_toArray, List.set_cons_zero, List.set_cons_succ, List.getElem_toArray, List.getElem_cons_succ, List.getElem_cons_zero]
  clear hw
  refine wpAnyS_ready (rs := [9]) (by kernel_rfl) (by simp) ?_
  refine AllReadyS.cons rfl (fun K hK => ?_) AllReadyS.nil
  go_simp
  refine hK.out _ _ (fun _ => (cell_of_row _ _ 0 _ _ _ HW5.out.2.1)) ?_
  clear hK K
  simp only [Act.put, List.setIfInBounds_toArray, List.set_cons_zero, List.set_cons_succ]
  refine wpAnyS_ready (rs := [10]) (by kernel_rfl) (by simp) ?_
  refine AllReadyS.cons rfl (fun K hK => ?_) AllReadyS.nil
  go_simp
  refine hK.out _ _ (fun _ => (cell_of_row _ _ 0 _ _ _ HW5.out.2.1)) ?_
  clear hK K
  simp only [Act.put, List.setIfInBounds_toArray, List.set_cons_zero, List.set_cons_succ]
  refine wpAnyS_ready (rs := [11]) (by kernel_rfl) (by simp) ?_
  refine AllReadyS.cons rfl (fun K hK => ?_) AllReadyS.nil
  have d11 : v5.cell? ⟨Pb, 11, none⟩ = some (.int .u64 0) := cell_of_row _ _ 11 _ _ _ HW5.out.2.2
  have f11 : v5.frozen? ⟨Pb, 11, none⟩ = false := frozen_of_row _ _ _ _ _ HW5.out.2.2
  go_simp
  obtain ⟨v6, hV⟩ : ∃ v6, v6 = (v5.setCell ⟨Pb, 11, none⟩ (.int .u64 (a : Int))) := ⟨_, rfl⟩
  have HW6 := Lib.hid (show KP R Pb w v6 ∧ v6.heap[N]? = some (.cells #[.pointer (some ⟨R, 0, none⟩)] 63 (0, 0)) ∧ v6.heap[Pb]? = some (.cells (pktA { zeroP with kind := 2, frm := f, dst := t, ce := c1.1, cr := (c1.2 : Int), stamp := a }) 35 (0, 0)) from by
    rw [hV]
    refine ⟨((HW5.out.1).st 11 (.int .u64 (a : Int))), ?_, (setCell_block (HW5.out.2.2) 11 (.int .u64 (a : Int)))⟩
    exact ((keptS _ ⟨Pb, 11, none⟩ (.int .u64 (a : Int))).keep (HW5.out.2.1) HB.out.2.1))
  have HS6 := Lib.hid (show RdL v6 R s l5 from by rw [hV]; exact (RdL.kept (HS5.out) (keptS _ ⟨Pb, 11, none⟩ (.int .u64 (a : Int))) (fun e => HB.out.2.2.2.2.2 e.symm)))
  have HR6 := HR5
  rw [← hV]
  refine hK.out _ _ (fun _ => (cell_of_row _ _ 0 _ _ _ HW6.out.2.1)) ?_
  clear hK K hV d11 f11
  simp only [Act.put, List.setIfInBounds_toArray, List.set_cons_zero, List.set_cons_succ]
  refine wpAnyS_ready (rs := [12]) (by kernel_rfl) (by simp) ?_
  refine AllReadyS.cons rfl (fun K hK => ?_) AllReadyS.nil
  go_simp
  refine hK.out _ _ (fun _ => (cell_of_row _ _ 0 _ _ _ HW6.out.2.1)) ?_
  clear hK K
  simp only [Act.put, List.setIfInBounds_toArray, List.set_cons_zero, List.set_cons_succ]
  refine wpAnyS_ready (rs := [13]) (by kernel_rfl) (by simp) ?_
  refine AllReadyS.cons rfl (fun K hK => ?_) AllReadyS.nil
  go_simp
  refine hK.out _ _ (fun _ => (cell_of_row _ _ 0 _ _ _ HW6.out.2.1)) ?_
  clear hK K
  simp only [Act.put, List.setIfInBounds_toArray, List.set_cons_zero, List.set_cons_succ]
  refine wpAnyS_ready (rs := [14]) (by kernel_rfl) (by simp) ?_
  refine AllReadyS.cons rfl (fun K hK => ?_) AllReadyS.nil
  have d12 : v6.cell? ⟨Pb, 12, none⟩ = some (.int .u32 0) := cell_of_row _ _ 12 _ _ _ HW6.out.2.2
  have f12 : v6.frozen? ⟨Pb, 12, none⟩ = false := frozen_of_row _ _ _ _ _ HW6.out.2.2
  go_simp
  obtain ⟨v7, hV⟩ : ∃ v7, v7 = (v6.setCell ⟨Pb, 12, none⟩ (.int .u32 (b : Int))) := ⟨_, rfl⟩
  have HW7 := Lib.hid (show KP R Pb w v7 ∧ v7.heap[N]? = some (.cells #[.pointer (some ⟨R, 0, none⟩)] 63 (0, 0)) ∧ v7.heap[Pb]? = some (.cells (pktA { zeroP with kind := 2, frm := f, dst := t, ce := c1.1, cr := (c1.2 : Int), stamp := a, sent := b }) 35 (0, 0)) from by
    rw [hV]
    refine ⟨((HW6.out.1).st 12 (.int .u32 (b : Int))), ?_, (setCell_block (HW6.out.2.2) 12 (.int .u32 (b : Int)))⟩
    exact ((keptS _ ⟨Pb, 12, none⟩ (.int .u32 (b : Int))).keep (HW6.out.2.1) HB.out.2.1))
  have HS7 := Lib.hid (show RdL v7 R s l5 from by rw [hV]; exact (RdL.kept (HS6.out) (keptS _ ⟨Pb, 12, none⟩ (.int .u32 (b : Int))) (fun e => HB.out.2.2.2.2.2 e.symm)))
  have HR7 := HR6
  rw [← hV]
  refine hK.out _ _ (fun _ => (cell_of_row _ _ 0 _ _ _ HW7.out.2.1)) ?_
  clear hK K hV d12 f12
  simp only [Act.put, List.setIfInBounds_toArray, List.set_cons_zero, List.set_cons_succ]
  refine wpAnyS_doneP (by kernel_rfl) ?_ _
  go_upto_region 7 with (fail)
  have c0 : v7.cell? ⟨N, 0, none⟩ = some (.pointer (some ⟨R, 0, none⟩)) := cell_of_row _ _ 0 _ _ _ HW7.out.2.1
  have HC := Lib.hid (vec_rd HS7.out)
  go_wp2_with fail
  refine HC.out.mono ?_
  intro e v8 h1
  rcases hn : rdVec l5 with c | ⟨g, l8⟩
  · rw [hn] at h1
    obtain ⟨rfl, hk⟩ := h1
    have HE := Lib.hid (fldErr (s := s) (show r = .error c from by rw [HR7.out]; exact andR_err hn _) (HW7.out.1.kr hk) (keep2 HW7.out.2.2 hk HB.out.2.2.2.2.2))
    clear hn hk HC
    (try simp only [Exit.inBlock, Exit.then])
    exact bodyPost_pan (P := Try.prog) (fn := Try.f23) rfl HE.out
  rw [hn] at h1
  obtain ⟨⟨ad, cap, rfl, ho⟩, h1, hk⟩ := h1
  have HR8 := Lib.hid (show r = andR (rdN 8 l8) fun h l => finR { ({ zeroP with kind := 2, frm := f, dst := t, ce := c1.1, cr := (c1.2 : Int) } : Pkt) with stamp := a, sent := b, got := g, hor := h } l from by rw [HR7.out]; exact andR_ok hn _)
  have HW8 := Lib.hid (And.intro (HW7.out.1.kr hk) (And.intro (keep2 HW7.out.2.1 hk HB.out.1) (keep2 HW7.out.2.2 hk HB.out.2.2.2.2.2)))
  have HS8 := Lib.hid h1
  have HO1 := Lib.hid (show OwnN w.heap.size v8 ad g cap from ownMore ho HW7.out.1.size)
  clear ho
  clear hk h1 hn HC
  clear c0
  have c0 : v8.cell? ⟨N, 0, none⟩ = some (.pointer (some ⟨R, 0, none⟩)) := cell_of_row _ _ 0 _ _ _ HW8.out.2.1
  have d13 : v8.cell? ⟨Pb, 13, none⟩ = some (.slice none 0 0) := cell_of_row _ _ 13 _ _ _ HW8.out.2.2
  have f13 : v8.frozen? ⟨Pb, 13, none⟩ = false := frozen_of_row _ _ _ _ _ HW8.out.2.2
  go_upto_region 8 with (fail)
  obtain ⟨v9, hV⟩ : ∃ v9, v9 = (v8.setCell ⟨Pb, 13, none⟩ (.slice ad g.length cap)) := ⟨_, rfl⟩
  have HW9 := Lib.hid (show KP R Pb w v9 ∧ v9.heap[N]? = some (.cells #[.pointer (some ⟨R, 0, none⟩)] 63 (0, 0)) ∧ v9.heap[Pb]? = some (.cells (pktA { zeroP with kind := 2, frm := f, dst := t, ce := c1.1, cr := (c1.2 : Int), stamp := a, sent := b, got := g, ga := ad, gc := cap }) 35 (0, 0)) from by
    rw [hV]
    refine ⟨((HW8.out.1).st 13 (.slice ad g.length cap)), ?_, (setCell_block (HW8.out.2.2) 13 (.slice ad g.length cap))⟩
    exact ((keptS _ ⟨Pb, 13, none⟩ (.slice ad g.length cap)).keep (HW8.out.2.1) HB.out.2.1))
  have HS9 := Lib.hid (show RdL v9 R s l8 from by rw [hV]; exact (RdL.kept (HS8.out) (keptS _ ⟨Pb, 13, none⟩ (.slice ad g.length cap)) (fun e => HB.out.2.2.2.2.2 e.symm)))
  have HO2 := Lib.hid (by have := ((HO1.out).st HB.out.2.2.2.1 13 (.slice ad g.length cap)); rw [← hV] at this; exact this)
  have HR9 := HR8
  rw [← hV]
  clear hV c0 d13 f13
  have c0 : v9.cell? ⟨N, 0, none⟩ = some (.pointer (some ⟨R, 0, none⟩)) := cell_of_row _ _ 0 _ _ _ HW9.out.2.1
  have HC := Lib.hid (num_rd HS9.out 8 (by omega) (by omega))
  go_wp2_with fail
  refine HC.out.mono ?_
  intro e v10 h1
  rcases hn : rdN 8 l8 with c | ⟨h, l10⟩
  · rw [hn] at h1
    obtain ⟨rfl, hk⟩ := h1
    have HE := Lib.hid (fldErr (s := s) (show r = .error c from by rw [HR9.out]; exact andR_err hn _) (HW9.out.1.kr hk) (keep2 HW9.out.2.2 hk HB.out.2.2.2.2.2))
    clear hn hk HC
    (try simp only [Exit.inBlock, Exit.then])
    exact bodyPost_pan (P := Try.prog) (fn := Try.f23) rfl HE.out
  rw [hn] at h1
  obtain ⟨rfl, h1, hk⟩ := h1
  have HR10 := Lib.hid (show r = finR { ({ zeroP with kind := 2, frm := f, dst := t, ce := c1.1, cr := (c1.2 : Int) } : Pkt) with stamp := a, sent := b, got := g, hor := h } l10 from by rw [HR9.out]; exact andR_ok hn _)
  have HW10 := Lib.hid (And.intro (HW9.out.1.kr hk) (And.intro (keep2 HW9.out.2.1 hk HB.out.1) (keep2 HW9.out.2.2 hk HB.out.2.2.2.2.2)))
  have HS10 := Lib.hid h1
  have HO3 := Lib.hid (HO2.out.kr hk HB.out.2.2.1)
  clear hk h1 hn HC
  clear c0
  have c0 : v10.cell? ⟨N, 0, none⟩ = some (.pointer (some ⟨R, 0, none⟩)) := cell_of_row _ _ 0 _ _ _ HW10.out.2.1
  have d14 : v10.cell? ⟨Pb, 14, none⟩ = some (.int .u64 0) := cell_of_row _ _ 14 _ _ _ HW10.out.2.2
  have f14 : v10.frozen? ⟨Pb, 14, none⟩ = false := frozen_of_row _ _ _ _ _ HW10.out.2.2
  go_upto_region 30 with (fail)
  obtain ⟨v11, hV⟩ : ∃ v11, v11 = (v10.setCell ⟨Pb, 14, none⟩ (.int .u64 (h : Int))) := ⟨_, rfl⟩
  have HW11 := Lib.hid (show KP R Pb w v11 ∧ v11.heap[N]? = some (.cells #[.pointer (some ⟨R, 0, none⟩)] 63 (0, 0)) ∧ v11.heap[Pb]? = some (.cells (pktA { zeroP with kind := 2, frm := f, dst := t, ce := c1.1, cr := (c1.2 : Int), stamp := a, sent := b, got := g, ga := ad, gc := cap, hor := h }) 35 (0, 0)) from by
    rw [hV]
    refine ⟨((HW10.out.1).st 14 (.int .u64 (h : Int))), ?_, (setCell_block (HW10.out.2.2) 14 (.int .u64 (h : Int)))⟩
    exact ((keptS _ ⟨Pb, 14, none⟩ (.int .u64 (h : Int))).keep (HW10.out.2.1) HB.out.2.1))
  have HS11 := Lib.hid (show RdL v11 R s l10 from by rw [hV]; exact (RdL.kept (HS10.out) (keptS _ ⟨Pb, 14, none⟩ (.int .u64 (h : Int))) (fun e => HB.out.2.2.2.2.2 e.symm)))
  have HO4 := Lib.hid (by have := ((HO3.out).st HB.out.2.2.2.1 14 (.int .u64 (h : Int))); rw [← hV] at this; exact this)
  have HR11 := HR10
  rw [← hV]
  clear hV c0 d14 f14
  have c0 : v11.cell? ⟨N, 0, none⟩ = some (.pointer (some ⟨R, 0, none⟩)) := cell_of_row _ _ 0 _ _ _ HW11.out.2.1
  have HC := Lib.hid (left_rd HS11.out)
  go_upto_region 30 with (fail)
  go_wp2_with fail
  refine HC.out.mono ?_
  rintro e v12 ⟨rfl, hb⟩
  have HW := Lib.hid (And.intro (HW11.out.1.kr (KR.below hb)) ((hb.block _ (Array.getElem?_eq_some_iff.1 HW11.out.2.2).1).trans HW11.out.2.2))
  have HO := Lib.hid (show OwnPk w.heap.size v12 { zeroP with kind := 2, frm := f, dst := t, ce := c1.1, cr := (c1.2 : Int), stamp := a, sent := b, got := g, ga := ad, gc := cap, hor := h } from ⟨(HO4.out.below hb), .nil _ _, ⟨rfl, .inl ⟨rfl, rfl⟩⟩, fun x hx => by cases hx⟩)
  clear hb c0 HC
  by_cases h4 : 0 < l10.length
  · have HE := Lib.hid (fldErr (s := s) (show r = .error 4 from by rw [HR11.out]; exact if_pos h4) HW.out.1 HW.out.2)
    have d1 : decide (0 < l10.length) = true := by rw [decide_eq_true_eq]; exact h4
    have d2 : decide ((0 : Int) < (l10.length : Int)) = true := by rw [decide_eq_true_eq]; omega
    clear h4
    go_wp2_with (go_at_call 50; refine (bad_so 4 _).mono ?_; rintro e w' ⟨rfl, rfl⟩)
    exact bodyPost_pan rfl HE.out
  · have HE := Lib.hid (show FldEnd R Pb s w r (.returned (.tuple #[])) v12 from by
      rw [show r = .ok ({ ({ zeroP with kind := 2, frm := f, dst := t, ce := c1.1, cr := (c1.2 : Int) } : Pkt) with stamp := a, sent := b, got := g, hor := h }, l10) from by rw [HR11.out]; exact if_neg h4]
      exact ⟨rfl, HW.out.1, _, HW.out.2, rfl, HO.out⟩)
    have d1 : decide (0 < l10.length) = false := by rw [decide_eq_false_iff_not]; exact h4
    have d2 : decide ((0 : Int) < (l10.length : Int)) = false := by rw [decide_eq_false_iff_not]; omega
    clear h4
    go_wp2_with (go_at_call 50; refine (bad_no 4 _).mono ?_; rintro e w' ⟨rfl, rfl⟩)
    go_end0
    exact HE.out
set_option maxRecDepth 100000 in
set_option maxHeartbeats 16000000 in
theorem fld3_rd {w : World} {R Pb : Nat} {s : ByteArray} {l0 : List UInt8} (h : RdL w R s l0) (f t : Int) (hp : w.heap[Pb]? = some (.cells (pktA { zeroP with kind := 3, frm := f, dst := t }) 35 (0, 0))) (hne : Pb ≠ R) :
    Calls Try.prog 23 #[.agg #[.pointer (some ⟨R, 0, none⟩)], .pointer (some ⟨Pb, 0, none⟩)] w fun e w' => FldEnd R Pb s w (rdBody 3 f t l0) e w' := by
  obtain ⟨N, hN⟩ : ∃ N, N = w.heap.size := ⟨_, rfl⟩
  obtain ⟨v0, hW⟩ : ∃ v0, v0 = w.alloc (.cells #[.pointer (some ⟨R, 0, none⟩)] 63) := ⟨_, rfl⟩
  have hbA := ba (br w) (.cells #[.pointer (some ⟨R, 0, none⟩)] 63)
  have n1 := heap_alloc_new w (.cells #[.pointer (some ⟨R, 0, none⟩)] 63)
  rw [← hW] at n1 hbA
  rw [← hN] at n1
  have hPl := (Array.getElem?_eq_some_iff.1 hp).1
  have HB := Lib.hid (show N ≠ R ∧ N ≠ Pb ∧ R < w.heap.size ∧ Pb < w.heap.size ∧ N = w.heap.size ∧ Pb ≠ R from ⟨by have := h.lt; omega, by omega, h.lt, hPl, hN, hne⟩)
  have c0 : v0.cell? ⟨N, 0, none⟩ = some (.pointer (some ⟨R, 0, none⟩)) := cell_of_row _ _ 0 _ _ _ n1
  have HS0 := Lib.hid (h.below hbA)
  have HW0 := Lib.hid (And.intro ((KP.refl R Pb w).kr (KR.below hbA)) (And.intro n1 ((hbA.block _ hPl).trans hp)))
  obtain ⟨r, hr⟩ : ∃ r, r = rdBody 3 f t l0 := ⟨_, rfl⟩
  rw [← hr]
  have HR0 := Lib.hid hr
  clear n1 hbA h hr hp hne hPl
  go_enter Try.func23, Try.ntmps23
  go_upto_region 1 with (fail)
  rw [← hW, ← hN]
  clear hW hN
  have c0 : v0.cell? ⟨N, 0, none⟩ = some (.pointer (some ⟨R, 0, none⟩)) := cell_of_row _ _ 0 _ _ _ HW0.out.2.1
  have HC := Lib.hid (conf_rd HS0.out)
  go_wp2_with fail
  refine HC.out.mono ?_
  intro e v1 h1
  rcases hn : rdConf l0 with c | ⟨c1, l1⟩
  · rw [hn] at h1
    obtain ⟨rfl, hk⟩ := h1
    have HE := Lib.hid (fldErr (s := s) (show r = .error c from by rw [HR0.out]; exact andR_err hn _) (HW0.out.1.kr hk) (keep2 HW0.out.2.2 hk HB.out.2.2.2.2.2))
    clear hn hk HC
    (try simp only [Exit.inBlock, Exit.then])
    exact bodyPost_pan (P := Try.prog) (fn := Try.f23) rfl HE.out
  rw [hn] at h1
  obtain ⟨rfl, h1, hk⟩ := h1
  have HR1 := Lib.hid (show r = rdK3 { zeroP with kind := 3, frm := f, dst := t, ce := c1.1, cr := (c1.2 : Int) } l1 from by rw [HR0.out]; exact andR_ok hn _)
  have HW1 := Lib.hid (And.intro (HW0.out.1.kr hk) (And.intro (keep2 HW0.out.2.1 hk HB.out.1) (keep2 HW0.out.2.2 hk HB.out.2.2.2.2.2)))
  have HS1 := Lib.hid h1
  clear hk h1 hn HC
  clear c0
  have c0 : v1.cell? ⟨N, 0, none⟩ = some (.pointer (some ⟨R, 0, none⟩)) := cell_of_row _ _ 0 _ _ _ HW1.out.2.1
  have d3 : v1.cell? ⟨Pb, 3, none⟩ = some (.int .u64 0) := cell_of_row _ _ 3 _ _ _ HW1.out.2.2
  have f3 : v1.frozen? ⟨Pb, 3, none⟩ = false := frozen_of_row _ _ _ _ _ HW1.out.2.2
  have d4 : v1.cell? ⟨Pb, 4, none⟩ = some (.int .i64 0) := cell_of_row _ _ 4 _ _ _ HW1.out.2.2
  have f4 : v1.frozen? ⟨Pb, 4, none⟩ = false := frozen_of_row _ _ _ _ _ HW1.out.2.2
  go_upto_region 2 with (fail)
  obtain ⟨v2, hV⟩ : ∃ v2, v2 = ((v1.setCell ⟨Pb, 3, none⟩ (.int .u64 (c1.1 : Int))).setCell ⟨Pb, 4, none⟩ (.int .i64 (c1.2 : Int))) := ⟨_, rfl⟩
  have HW2 := Lib.hid (show KP R Pb w v2 ∧ v2.heap[N]? = some (.cells #[.pointer (some ⟨R, 0, none⟩)] 63 (0, 0)) ∧ v2.heap[Pb]? = some (.cells (pktA { zeroP with kind := 3, frm := f, dst := t, ce := c1.1, cr := (c1.2 : Int) }) 35 (0, 0)) from by
    rw [hV]
    refine ⟨((((HW1.out.1).st 3 (.int .u64 (c1.1 : Int)))).st 4 (.int .i64 (c1.2 : Int))), ?_, (setCell_block ((setCell_block (HW1.out.2.2) 3 (.int .u64 (c1.1 : Int)))) 4 (.int .i64 (c1.2 : Int)))⟩
    exact ((keptS _ ⟨Pb, 4, none⟩ (.int .i64 (c1.2 : Int))).keep (((keptS _ ⟨Pb, 3, none⟩ (.int .u64 (c1.1 : Int))).keep (HW1.out.2.1) HB.out.2.1)) HB.out.2.1))
  have HS2 := Lib.hid (show RdL v2 R s l1 from by rw [hV]; exact (RdL.kept ((RdL.kept (HS1.out) (keptS _ ⟨Pb, 3, none⟩ (.int .u64 (c1.1 : Int))) (fun e => HB.out.2.2.2.2.2 e.symm))) (keptS _ ⟨Pb, 4, none⟩ (.int .i64 (c1.2 : Int))) (fun e => HB.out.2.2.2.2.2 e.symm)))
  have HR2 := HR1
  rw [← hV]
  clear hV c0 d3 f3 d4 f4
  have q0 : v2.cell? ⟨Pb, 0, none⟩ = some (.int .i64 3) := cell_of_row _ _ 0 _ _ _ HW2.out.2.2
  go_upto_region 11 with (fail)
  clear q0
  have c0 : v2.cell? ⟨N, 0, none⟩ = some (.pointer (some ⟨R, 0, none⟩)) := cell_of_row _ _ 0 _ _ _ HW2.out.2.1
  have HC := Lib.hid (proc_rd HS2.out)
  go_upto_region 11 with (fail)
  have HS3 := Lib.hid (HS2.out.below (br v2).drew)
  have HW3 := Lib.hid (show KP R Pb w v2.drew ∧ _ ∧ _ from And.intro (HW2.out.1.kr (KR.below (br v2).drew)) (And.intro (show v2.drew.heap[N]? = _ from HW2.out.2.1) (show v2.drew.heap[Pb]? = _ from HW2.out.2.2)))
  have HR3 := HR2
  clear HC
  refine wp_region_maskP (fun w' => w'.cell? ⟨N, 0, none⟩ = some (.pointer (some ⟨R, 0, none⟩))) 13 9 [true, true, true, false, true, true, false, false, false, false, false, false, false, false] #[true, true, true, false, true, true, false, false, false, false, false, false, false, false] (by kernel_rfl) (by kernel_rfl) (by kernel_rfl) (fun c a d v w h => by cases d <;> exact h) (cell_of_row _ _ 0 _ _ _ HW3.out.2.1) ?_
  clear c0
  generalize v2.drew = v3 at *
  have HC := Lib.hid (proc_rd HS3.out)
  refine wpMask_take _ (Or.inl ⟨by rfl, fun w' hS => by (try dsimp only at hS); go_simp; try with_reducible rfl⟩) ?_
  simp only [Act.put, List.setIfInBounds_toArray, List.set_cons_zero, List.set_cons_succ]
  refine wpMask_take _ (Or.inl ⟨by rfl, fun w' hS => by (try dsimp only at hS); go_simp; try with_reducible rfl⟩) ?_
  simp only [Act.put, List.setIfInBounds_toArray, List.set_cons_zero, List.set_cons_succ]
  refine wpMask_take _ (Or.inl ⟨by rfl, fun w' hS => by (try dsimp only at hS); go_simp; try with_reducible rfl⟩) ?_
  simp only [Act.put, List.setIfInBounds_toArray, List.set_cons_zero, List.set_cons_succ]
  refine wpMask_skip ?_
  refine wpMask_take _ (Or.inl ⟨by rfl, fun w' hS => by (try dsimp only at hS); go_simp; try with_reducible rfl⟩) ?_
  simp only [Act.put, List.setIfInBounds_toArray, List.set_cons_zero, List.set_cons_succ]
  refine wpMask_take _ (Or.inl ⟨by rfl, fun w' hS => by (try dsimp only at hS); go_simp; try with_reducible rfl⟩) ?_
  simp only [Act.put, List.setIfInBounds_toArray, List.set_cons_zero, List.set_cons_succ]
  refine wpMask_skip (wpMask_skip (wpMask_skip (wpMask_skip (wpMask_skip (wpMask_skip (wpMask_skip (wpMask_skip (wpMask_nil ?_))))))))
  refine wpAnyS_ready (rs := [3]) (by kernel_rfl) (by simp) ?_
  refine AllReadyS.cons rfl (fun K hK => ?_) AllReadyS.nil
  go_simp
  refine HC.out.mono ?_
  intro e v4 h1
  rcases hn : rdProc l1 with c | ⟨a, l4⟩
  · rw [hn] at h1
    obtain ⟨rfl, hk⟩ := h1
    have HE := Lib.hid (fldErr (s := s) (show r = .error c from by rw [HR3.out]; exact andR_err hn _) (HW3.out.1.kr hk) (keep2 HW3.out.2.2 hk HB.out.2.2.2.2.2))
    clear hn hk HC
    (try simp only [Exit.inBlock, Exit.then])
    exact bodyPost_pan (P := Try.prog) (fn := Try.f23) rfl HE.out
  rw [hn] at h1
  obtain ⟨rfl, h1, hk⟩ := h1
  have HR4 := Lib.hid (show r = andR (rdN 4 l4) fun b l => finR { ({ zeroP with kind := 3, frm := f, dst := t, ce := c1.1, cr := (c1.2 : Int) } : Pkt) with whom := (a : Int), seq := b } l from by rw [HR3.out]; exact andR_ok hn _)
  have HW4 := Lib.hid (And.intro (HW3.out.1.kr hk) (And.intro (keep2 HW3.out.2.1 hk HB.out.1) (keep2 HW3.out.2.2 hk HB.out.2.2.2.2.2)))
  have HS4 := Lib.hid h1
  clear hk h1 hn HC
  refine hK.out _ _ (fun _ => (cell_of_row _ _ 0 _ _ _ HW4.out.2.1)) ?_
  clear hK K
  simp only [Act.put, List.setIfInBounds_toArray, List.set_cons_zero, List.set_cons_succ]
  have HC := Lib.hid (num_rd HS4.out 4 (by omega) (by omega))
  refine wpAnyS_ready (rs := [6]) (by kernel_rfl) (by simp) ?_
  refine AllReadyS.cons rfl (fun K hK => ?_) AllReadyS.nil
  go_simp
  refine HC.out.mono ?_
  intro e v5 h1
  rcases hn : rdN 4 l4 with c | ⟨b, l5⟩
  · rw [hn] at h1
    obtain ⟨rfl, hk⟩ := h1
    have HE := Lib.hid (fldErr (s := s) (show r = .error c from by rw [HR4.out]; exact andR_err hn _) (HW4.out.1.kr hk) (keep2 HW4.out.2.2 hk HB.out.2.2.2.2.2))
    clear hn hk HC
    (try simp only [Exit.inBlock, Exit.then])
    exact bodyPost_pan (P := Try.prog) (fn := Try.f23) rfl HE.out
  rw [hn] at h1
  obtain ⟨rfl, h1, hk⟩ := h1
  have HR5 := Lib.hid (show r = finR { ({ zeroP with kind := 3, frm := f, dst := t, ce := c1.1, cr := (c1.2 : Int) } : Pkt) with whom := (a : Int), seq := b } l5 from by rw [HR4.out]; exact andR_ok hn _)
  have HW5 := Lib.hid (And.intro (HW4.out.1.kr hk) (And.intro (keep2 HW4.out.2.1 hk HB.out.1) (keep2 HW4.out.2.2 hk HB.out.2.2.2.2.2)))
  have HS5 := Lib.hid h1
  have hw : IntKind.u32.wrap (b : Int) = (b : Int) := by have := (rdN_lt (by omega) hn).1; rw [IntKind.wrap_u32]; simp at this; omega
  clear hk h1 hn HC
  refine hK.out _ _ (fun _ => (cell_of_row _ _ 0 _ _ _ HW5.out.2.1)) ?_
  clear hK K
  simp only [Act.put, List.setIfInBounds_toArray, List.set_cons_zero, List.set_cons_succ]
  refine wpAnyS_takeP (i := 7) _ (fun c a d v w h => by cases d <;> exact h) rfl (by kernel_rfl) (Or.inl ⟨by rfl, fun w' hS => by (try dsimp only at hS); go_simp; try with_reducible rfl⟩) (cell_of_row _ _ 0 _ _ _ HW5.out.2.1) ?_
  simp only [Act.put, List.setIfInBounds_toArray, List.set_cons_zero, List.set_cons_succ, List.getElem_toArray, List.getElem_cons_succ, List.getElem_cons_zero]
  clear hw
  refine wpAnyS_ready (rs := [8]) (by kernel_rfl) (by simp) ?_
  refine AllReadyS.cons rfl (fun K hK => ?_) AllReadyS.nil
  go_simp
  refine hK.out _ _ (fun _ => (cell_of_row _ _ 0 _ _ _ HW5.out.2.1)) ?_
  clear hK K
  simp only [Act.put, List.setIfInBounds_toArray, List.set_cons_zero, List.set_cons_succ]
  refine wpAnyS_ready (rs := [9]) (by kernel_rfl) (by simp) ?_
  refine AllReadyS.cons rfl (fun K hK => ?_) AllReadyS.nil
  go_simp
  refine hK.out _ _ (fun _ => (cell_of_row _ _ 0 _ _ _ HW5.out.2.1)) ?_
  clear hK K
  simp only [Act.put, List.setIfInBounds_toArray, List.set_cons_zero, List.set_cons_succ]
  refine wpAnyS_ready (rs := [10]) (by kernel_rfl) (by simp) ?_
  refine AllReadyS.cons rfl (fun K hK => ?_) AllReadyS.nil
  have d15 : v5.cell? ⟨Pb, 15, none⟩ = some (.int .i64 0) := cell_of_row _ _ 15 _ _ _ HW5.out.2.2
  have f15 : v5.frozen? ⟨Pb, 15, none⟩ = false := frozen_of_row _ _ _ _ _ HW5.out.2.2
  go_simp
  obtain ⟨v6, hV⟩ : ∃ v6, v6 = (v5.setCell ⟨Pb, 15, none⟩ (.int .i64 (a : Int))) := ⟨_, rfl⟩
  have HW6 := Lib.hid (show KP R Pb w v6 ∧ v6.heap[N]? = some (.cells #[.pointer (some ⟨R, 0, none⟩)] 63 (0, 0)) ∧ v6.heap[Pb]? = some (.cells (pktA { zeroP with kind := 3, frm := f, dst := t, ce := c1.1, cr := (c1.2 : Int), whom := (a : Int) }) 35 (0, 0)) from by
    rw [hV]
    refine ⟨((HW5.out.1).st 15 (.int .i64 (a : Int))), ?_, (setCell_block (HW5.out.2.2) 15 (.int .i64 (a : Int)))⟩
    exact ((keptS _ ⟨Pb, 15, none⟩ (.int .i64 (a : Int))).keep (HW5.out.2.1) HB.out.2.1))
  have HS6 := Lib.hid (show RdL v6 R s l5 from by rw [hV]; exact (RdL.kept (HS5.out) (keptS _ ⟨Pb, 15, none⟩ (.int .i64 (a : Int))) (fun e => HB.out.2.2.2.2.2 e.symm)))
  have HR6 := HR5
  rw [← hV]
  refine hK.out _ _ (fun _ => (cell_of_row _ _ 0 _ _ _ HW6.out.2.1)) ?_
  clear hK K hV d15 f15
  simp only [Act.put, List.setIfInBounds_toArray, List.set_cons_zero, List.set_cons_succ]
  refine wpAnyS_ready (rs := [11]) (by kernel_rfl) (by simp) ?_
  refine AllReadyS.cons rfl (fun K hK => ?_) AllReadyS.nil
  go_simp
  refine hK.out _ _ (fun _ => (cell_of_row _ _ 0 _ _ _ HW6.out.2.1)) ?_
  clear hK K
  simp only [Act.put, List.setIfInBounds_toArray, List.set_cons_zero, List.set_cons_succ]
  refine wpAnyS_ready (rs := [12]) (by kernel_rfl) (by simp) ?_
  refine AllReadyS.cons rfl (fun K hK => ?_) AllReadyS.nil
  go_simp
  refine hK.out _ _ (fun _ => (cell_of_row _ _ 0 _ _ _ HW6.out.2.1)) ?_
  clear hK K
  simp only [Act.put, List.setIfInBounds_toArray, List.set_cons_zero, List.set_cons_succ]
  refine wpAnyS_ready (rs := [13]) (by kernel_rfl) (by simp) ?_
  refine AllReadyS.cons rfl (fun K hK => ?_) AllReadyS.nil
  have d16 : v6.cell? ⟨Pb, 16, none⟩ = some (.int .u32 0) := cell_of_row _ _ 16 _ _ _ HW6.out.2.2
  have f16 : v6.frozen? ⟨Pb, 16, none⟩ = false := frozen_of_row _ _ _ _ _ HW6.out.2.2
  go_simp
  obtain ⟨v7, hV⟩ : ∃ v7, v7 = (v6.setCell ⟨Pb, 16, none⟩ (.int .u32 (b : Int))) := ⟨_, rfl⟩
  have HW7 := Lib.hid (show KP R Pb w v7 ∧ v7.heap[N]? = some (.cells #[.pointer (some ⟨R, 0, none⟩)] 63 (0, 0)) ∧ v7.heap[Pb]? = some (.cells (pktA { zeroP with kind := 3, frm := f, dst := t, ce := c1.1, cr := (c1.2 : Int), whom := (a : Int), seq := b }) 35 (0, 0)) from by
    rw [hV]
    refine ⟨((HW6.out.1).st 16 (.int .u32 (b : Int))), ?_, (setCell_block (HW6.out.2.2) 16 (.int .u32 (b : Int)))⟩
    exact ((keptS _ ⟨Pb, 16, none⟩ (.int .u32 (b : Int))).keep (HW6.out.2.1) HB.out.2.1))
  have HS7 := Lib.hid (show RdL v7 R s l5 from by rw [hV]; exact (RdL.kept (HS6.out) (keptS _ ⟨Pb, 16, none⟩ (.int .u32 (b : Int))) (fun e => HB.out.2.2.2.2.2 e.symm)))
  have HR7 := HR6
  rw [← hV]
  refine hK.out _ _ (fun _ => (cell_of_row _ _ 0 _ _ _ HW7.out.2.1)) ?_
  clear hK K hV d16 f16
  simp only [Act.put, List.setIfInBounds_toArray, List.set_cons_zero, List.set_cons_succ]
  refine wpAnyS_doneP (by kernel_rfl) ?_ _
  have c0 : v7.cell? ⟨N, 0, none⟩ = some (.pointer (some ⟨R, 0, none⟩)) := cell_of_row _ _ 0 _ _ _ HW7.out.2.1
  have HC := Lib.hid (left_rd HS7.out)
  go_upto_region 30 with (fail)
  go_wp2_with fail
  refine HC.out.mono ?_
  rintro e v8 ⟨rfl, hb⟩
  have HW := Lib.hid (And.intro (HW7.out.1.kr (KR.below hb)) ((hb.block _ (Array.getElem?_eq_some_iff.1 HW7.out.2.2).1).trans HW7.out.2.2))
  have HO := Lib.hid (show OwnPk w.heap.size v8 { zeroP with kind := 3, frm := f, dst := t, ce := c1.1, cr := (c1.2 : Int), whom := (a : Int), seq := b } from ⟨.nil _ _, .nil _ _, ⟨rfl, .inl ⟨rfl, rfl⟩⟩, fun x hx => by cases hx⟩)
  clear hb c0 HC
  by_cases h4 : 0 < l5.length
  · have HE := Lib.hid (fldErr (s := s) (show r = .error 4 from by rw [HR7.out]; exact if_pos h4) HW.out.1 HW.out.2)
    have d1 : decide (0 < l5.length) = true := by rw [decide_eq_true_eq]; exact h4
    have d2 : decide ((0 : Int) < (l5.length : Int)) = true := by rw [decide_eq_true_eq]; omega
    clear h4
    go_wp2_with (go_at_call 50; refine (bad_so 4 _).mono ?_; rintro e w' ⟨rfl, rfl⟩)
    exact bodyPost_pan rfl HE.out
  · have HE := Lib.hid (show FldEnd R Pb s w r (.returned (.tuple #[])) v8 from by
      rw [show r = .ok ({ ({ zeroP with kind := 3, frm := f, dst := t, ce := c1.1, cr := (c1.2 : Int) } : Pkt) with whom := (a : Int), seq := b }, l5) from by rw [HR7.out]; exact if_neg h4]
      exact ⟨rfl, HW.out.1, _, HW.out.2, rfl, HO.out⟩)
    have d1 : decide (0 < l5.length) = false := by rw [decide_eq_false_iff_not]; exact h4
    have d2 : decide ((0 : Int) < (l5.length : Int)) = false := by rw [decide_eq_false_iff_not]; omega
    clear h4
    go_wp2_with (go_at_call 50; refine (bad_no 4 _).mono ?_; rintro e w' ⟨rfl, rfl⟩)
    go_end0
    exact HE.out
set_option maxRecDepth 100000 in
set_option maxHeartbeats 16000000 in
theorem fld4_rd {w : World} {R Pb : Nat} {s : ByteArray} {l0 : List UInt8} (h : RdL w R s l0) (f t : Int) (hp : w.heap[Pb]? = some (.cells (pktA { zeroP with kind := 4, frm := f, dst := t }) 35 (0, 0))) (hne : Pb ≠ R) :
    Calls Try.prog 23 #[.agg #[.pointer (some ⟨R, 0, none⟩)], .pointer (some ⟨Pb, 0, none⟩)] w fun e w' => FldEnd R Pb s w (rdBody 4 f t l0) e w' := by
  obtain ⟨N, hN⟩ : ∃ N, N = w.heap.size := ⟨_, rfl⟩
  obtain ⟨v0, hW⟩ : ∃ v0, v0 = w.alloc (.cells #[.pointer (some ⟨R, 0, none⟩)] 63) := ⟨_, rfl⟩
  have hbA := ba (br w) (.cells #[.pointer (some ⟨R, 0, none⟩)] 63)
  have n1 := heap_alloc_new w (.cells #[.pointer (some ⟨R, 0, none⟩)] 63)
  rw [← hW] at n1 hbA
  rw [← hN] at n1
  have hPl := (Array.getElem?_eq_some_iff.1 hp).1
  have HB := Lib.hid (show N ≠ R ∧ N ≠ Pb ∧ R < w.heap.size ∧ Pb < w.heap.size ∧ N = w.heap.size ∧ Pb ≠ R from ⟨by have := h.lt; omega, by omega, h.lt, hPl, hN, hne⟩)
  have c0 : v0.cell? ⟨N, 0, none⟩ = some (.pointer (some ⟨R, 0, none⟩)) := cell_of_row _ _ 0 _ _ _ n1
  have HS0 := Lib.hid (h.below hbA)
  have HW0 := Lib.hid (And.intro ((KP.refl R Pb w).kr (KR.below hbA)) (And.intro n1 ((hbA.block _ hPl).trans hp)))
  obtain ⟨r, hr⟩ : ∃ r, r = rdBody 4 f t l0 := ⟨_, rfl⟩
  rw [← hr]
  have HR0 := Lib.hid hr
  clear n1 hbA h hr hp hne hPl
  go_enter Try.func23, Try.ntmps23
  go_upto_region 1 with (fail)
  rw [← hW, ← hN]
  clear hW hN
  have c0 : v0.cell? ⟨N, 0, none⟩ = some (.pointer (some ⟨R, 0, none⟩)) := cell_of_row _ _ 0 _ _ _ HW0.out.2.1
  have HC := Lib.hid (conf_rd HS0.out)
  go_wp2_with fail
  refine HC.out.mono ?_
  intro e v1 h1
  rcases hn : rdConf l0 with c | ⟨c1, l1⟩
  · rw [hn] at h1
    obtain ⟨rfl, hk⟩ := h1
    have HE := Lib.hid (fldErr (s := s) (show r = .error c from by rw [HR0.out]; exact andR_err hn _) (HW0.out.1.kr hk) (keep2 HW0.out.2.2 hk HB.out.2.2.2.2.2))
    clear hn hk HC
    (try simp only [Exit.inBlock, Exit.then])
    exact bodyPost_pan (P := Try.prog) (fn := Try.f23) rfl HE.out
  rw [hn] at h1
  obtain ⟨rfl, h1, hk⟩ := h1
  have HR1 := Lib.hid (show r = rdK4 { zeroP with kind := 4, frm := f, dst := t, ce := c1.1, cr := (c1.2 : Int) } l1 from by rw [HR0.out]; exact andR_ok hn _)
  have HW1 := Lib.hid (And.intro (HW0.out.1.kr hk) (And.intro (keep2 HW0.out.2.1 hk HB.out.1) (keep2 HW0.out.2.2 hk HB.out.2.2.2.2.2)))
  have HS1 := Lib.hid h1
  clear hk h1 hn HC
  clear c0
  have c0 : v1.cell? ⟨N, 0, none⟩ = some (.pointer (some ⟨R, 0, none⟩)) := cell_of_row _ _ 0 _ _ _ HW1.out.2.1
  have d3 : v1.cell? ⟨Pb, 3, none⟩ = some (.int .u64 0) := cell_of_row _ _ 3 _ _ _ HW1.out.2.2
  have f3 : v1.frozen? ⟨Pb, 3, none⟩ = false := frozen_of_row _ _ _ _ _ HW1.out.2.2
  have d4 : v1.cell? ⟨Pb, 4, none⟩ = some (.int .i64 0) := cell_of_row _ _ 4 _ _ _ HW1.out.2.2
  have f4 : v1.frozen? ⟨Pb, 4, none⟩ = false := frozen_of_row _ _ _ _ _ HW1.out.2.2
  go_upto_region 2 with (fail)
  obtain ⟨v2, hV⟩ : ∃ v2, v2 = ((v1.setCell ⟨Pb, 3, none⟩ (.int .u64 (c1.1 : Int))).setCell ⟨Pb, 4, none⟩ (.int .i64 (c1.2 : Int))) := ⟨_, rfl⟩
  have HW2 := Lib.hid (show KP R Pb w v2 ∧ v2.heap[N]? = some (.cells #[.pointer (some ⟨R, 0, none⟩)] 63 (0, 0)) ∧ v2.heap[Pb]? = some (.cells (pktA { zeroP with kind := 4, frm := f, dst := t, ce := c1.1, cr := (c1.2 : Int) }) 35 (0, 0)) from by
    rw [hV]
    refine ⟨((((HW1.out.1).st 3 (.int .u64 (c1.1 : Int)))).st 4 (.int .i64 (c1.2 : Int))), ?_, (setCell_block ((setCell_block (HW1.out.2.2) 3 (.int .u64 (c1.1 : Int)))) 4 (.int .i64 (c1.2 : Int)))⟩
    exact ((keptS _ ⟨Pb, 4, none⟩ (.int .i64 (c1.2 : Int))).keep (((keptS _ ⟨Pb, 3, none⟩ (.int .u64 (c1.1 : Int))).keep (HW1.out.2.1) HB.out.2.1)) HB.out.2.1))
  have HS2 := Lib.hid (show RdL v2 R s l1 from by rw [hV]; exact (RdL.kept ((RdL.kept (HS1.out) (keptS _ ⟨Pb, 3, none⟩ (.int .u64 (c1.1 : Int))) (fun e => HB.out.2.2.2.2.2 e.symm))) (keptS _ ⟨Pb, 4, none⟩ (.int .i64 (c1.2 : Int))) (fun e => HB.out.2.2.2.2.2 e.symm)))
  have HR2 := HR1
  rw [← hV]
  clear hV c0 d3 f3 d4 f4
  have q0 : v2.cell? ⟨Pb, 0, none⟩ = some (.int .i64 4) := cell_of_row _ _ 0 _ _ _ HW2.out.2.2
  go_upto_region 13 with (fail)
  clear q0
  have c0 : v2.cell? ⟨N, 0, none⟩ = some (.pointer (some ⟨R, 0, none⟩)) := cell_of_row _ _ 0 _ _ _ HW2.out.2.1
  have HC := Lib.hid (conf_rd HS2.out)
  go_wp2_with fail
  refine HC.out.mono ?_
  intro e v3 h1
  rcases hn : rdConf l1 with c | ⟨a, l3⟩
  · rw [hn] at h1
    obtain ⟨rfl, hk⟩ := h1
    have HE := Lib.hid (fldErr (s := s) (show r = .error c from by rw [HR2.out]; unfold rdK4; exact andR_err hn _) (HW2.out.1.kr hk) (keep2 HW2.out.2.2 hk HB.out.2.2.2.2.2))
    clear hn hk HC
    (try simp only [Exit.inBlock, Exit.then])
    exact bodyPost_pan (P := Try.prog) (fn := Try.f23) rfl HE.out
  rw [hn] at h1
  obtain ⟨rfl, h1, hk⟩ := h1
  have HR3 := Lib.hid (show r = andR (rdN 8 l3) fun b l => andR (rdN 8 l) fun g l => finR { ({ zeroP with kind := 4, frm := f, dst := t, ce := c1.1, cr := (c1.2 : Int) } : Pkt) with pe := a.1, pr := (a.2 : Int), epoch := b, mem := g } l from by rw [HR2.out]; unfold rdK4; exact andR_ok hn _)
  have HW3 := Lib.hid (And.intro (HW2.out.1.kr hk) (And.intro (keep2 HW2.out.2.1 hk HB.out.1) (keep2 HW2.out.2.2 hk HB.out.2.2.2.2.2)))
  have HS3 := Lib.hid h1
  clear hk h1 hn HC
  clear c0
  have c0 : v3.cell? ⟨N, 0, none⟩ = some (.pointer (some ⟨R, 0, none⟩)) := cell_of_row _ _ 0 _ _ _ HW3.out.2.1
  have d18 : v3.cell? ⟨Pb, 18, none⟩ = some (.int .u64 0) := cell_of_row _ _ 18 _ _ _ HW3.out.2.2
  have f18 : v3.frozen? ⟨Pb, 18, none⟩ = false := frozen_of_row _ _ _ _ _ HW3.out.2.2
  have d19 : v3.cell? ⟨Pb, 19, none⟩ = some (.int .i64 0) := cell_of_row _ _ 19 _ _ _ HW3.out.2.2
  have f19 : v3.frozen? ⟨Pb, 19, none⟩ = false := frozen_of_row _ _ _ _ _ HW3.out.2.2
  go_upto_region 14 with (fail)
  obtain ⟨v4, hV⟩ : ∃ v4, v4 = ((v3.setCell ⟨Pb, 18, none⟩ (.int .u64 (a.1 : Int))).setCell ⟨Pb, 19, none⟩ (.int .i64 (a.2 : Int))) := ⟨_, rfl⟩
  have HW4 := Lib.hid (show KP R Pb w v4 ∧ v4.heap[N]? = some (.cells #[.pointer (some ⟨R, 0, none⟩)] 63 (0, 0)) ∧ v4.heap[Pb]? = some (.cells (pktA { zeroP with kind := 4, frm := f, dst := t, ce := c1.1, cr := (c1.2 : Int), pe := a.1, pr := (a.2 : Int) }) 35 (0, 0)) from by
    rw [hV]
    refine ⟨((((HW3.out.1).st 18 (.int .u64 (a.1 : Int)))).st 19 (.int .i64 (a.2 : Int))), ?_, (setCell_block ((setCell_block (HW3.out.2.2) 18 (.int .u64 (a.1 : Int)))) 19 (.int .i64 (a.2 : Int)))⟩
    exact ((keptS _ ⟨Pb, 19, none⟩ (.int .i64 (a.2 : Int))).keep (((keptS _ ⟨Pb, 18, none⟩ (.int .u64 (a.1 : Int))).keep (HW3.out.2.1) HB.out.2.1)) HB.out.2.1))
  have HS4 := Lib.hid (show RdL v4 R s l3 from by rw [hV]; exact (RdL.kept ((RdL.kept (HS3.out) (keptS _ ⟨Pb, 18, none⟩ (.int .u64 (a.1 : Int))) (fun e => HB.out.2.2.2.2.2 e.symm))) (keptS _ ⟨Pb, 19, none⟩ (.int .i64 (a.2 : Int))) (fun e => HB.out.2.2.2.2.2 e.symm)))
  have HR4 := HR3
  rw [← hV]
  clear hV c0 d18 f18 d19 f19
  have c0 : v4.cell? ⟨N, 0, none⟩ = some (.pointer (some ⟨R, 0, none⟩)) := cell_of_row _ _ 0 _ _ _ HW4.out.2.1
  have HC := Lib.hid (num_rd HS4.out 8 (by omega) (by omega))
  go_upto_region 14 with (fail)
  have HS5 := Lib.hid (HS4.out.below (br v4).drew)
  have HW5 := Lib.hid (show KP R Pb w v4.drew ∧ _ ∧ _ from And.intro (HW4.out.1.kr (KR.below (br v4).drew)) (And.intro (show v4.drew.heap[N]? = _ from HW4.out.2.1) (show v4.drew.heap[Pb]? = _ from HW4.out.2.2)))
  have HR5 := HR4
  clear HC
  refine wp_region_maskP (fun w' => w'.cell? ⟨N, 0, none⟩ = some (.pointer (some ⟨R, 0, none⟩))) 13 8 [true, true, true, true, false, true, true, false, false, false, false, false, false, false] #[true, true, true, true, false, true, true, false, false, false, false, false, false, false] (by kernel_rfl) (by kernel_rfl) (by kernel_rfl) (fun c a d v w h => by cases d <;> exact h) (cell_of_row _ _ 0 _ _ _ HW5.out.2.1) ?_
  clear c0
  generalize v4.drew = v5 at *
  have HC := Lib.hid (num_rd HS5.out 8 (by omega) (by omega))
  refine wpMask_take _ (Or.inl ⟨by rfl, fun w' hS => by (try dsimp only at hS); go_simp; try with_reducible rfl⟩) ?_
  simp only [Act.put, List.setIfInBounds_toArray, List.set_cons_zero, List.set_cons_succ]
  refine wpMask_take _ (Or.inl ⟨by rfl, fun w' hS => by (try dsimp only at hS); go_simp; try with_reducible rfl⟩) ?_
  simp only [Act.put, List.setIfInBounds_toArray, List.set_cons_zero, List.set_cons_succ]
  refine wpMask_take _ (Or.inl ⟨by rfl, fun w' hS => by (try dsimp only at hS); go_simp; try with_reducible rfl⟩) ?_
  simp only [Act.put, List.setIfInBounds_toArray, List.set_cons_zero, List.set_cons_succ]
  refine wpMask_take _ (Or.inl ⟨by rfl, fun w' hS => by (try dsimp only at hS); go_simp; try with_reducible rfl⟩) ?_
  simp only [Act.put, List.setIfInBounds_toArray, List.set_cons_zero, List.set_cons_succ]
  refine wpMask_skip ?_
  refine wpMask_take _ (Or.inl ⟨by rfl, fun w' hS => by (try dsimp only at hS); go_simp; try with_reducible rfl⟩) ?_
  simp only [Act.put, List.setIfInBounds_toArray, List.set_cons_zero, List.set_cons_succ]
  refine wpMask_take _ (Or.inl ⟨by rfl, fun w' hS => by (try dsimp only at hS); go_simp; try with_reducible rfl⟩) ?_
  simp only [Act.put, List.setIfInBounds_toArray, List.set_cons_zero, List.set_cons_succ]
  refine wpMask_skip (wpMask_skip (wpMask_skip (wpMask_skip (wpMask_skip (wpMask_skip (wpMask_skip (wpMask_nil ?_)))))))
  refine wpAnyS_ready (rs := [4]) (by kernel_rfl) (by simp) ?_
  refine AllReadyS.cons rfl (fun K hK => ?_) AllReadyS.nil
  go_simp
  refine HC.out.mono ?_
  intro e v6 h1
  rcases hn : rdN 8 l3 with c | ⟨b, l6⟩
  · rw [hn] at h1
    obtain ⟨rfl, hk⟩ := h1
    have HE := Lib.hid (fldErr (s := s) (show r = .error c from by rw [HR5.out]; exact andR_err hn _) (HW5.out.1.kr hk) (keep2 HW5.out.2.2 hk HB.out.2.2.2.2.2))
    clear hn hk HC
    (try simp only [Exit.inBlock, Exit.then])
    exact bodyPost_pan (P := Try.prog) (fn := Try.f23) rfl HE.out
  rw [hn] at h1
  obtain ⟨rfl, h1, hk⟩ := h1
  have HR6 := Lib.hid (show r = andR (rdN 8 l6) fun g l => finR { ({ zeroP with kind := 4, frm := f, dst := t, ce := c1.1, cr := (c1.2 : Int) } : Pkt) with pe := a.1, pr := (a.2 : Int), epoch := b, mem := g } l from by rw [HR5.out]; exact andR_ok hn _)
  have HW6 := Lib.hid (And.intro (HW5.out.1.kr hk) (And.intro (keep2 HW5.out.2.1 hk HB.out.1) (keep2 HW5.out.2.2 hk HB.out.2.2.2.2.2)))
  have HS6 := Lib.hid h1
  clear hk h1 hn HC
  refine hK.out _ _ (fun _ => (cell_of_row _ _ 0 _ _ _ HW6.out.2.1)) ?_
  clear hK K
  simp only [Act.put, List.setIfInBounds_toArray, List.set_cons_zero, List.set_cons_succ]
  have HC := Lib.hid (num_rd HS6.out 8 (by omega) (by omega))
  refine wpAnyS_ready (rs := [7]) (by kernel_rfl) (by simp) ?_
  refine AllReadyS.cons rfl (fun K hK => ?_) AllReadyS.nil
  go_simp
  refine HC.out.mono ?_
  intro e v7 h1
  rcases hn : rdN 8 l6 with c | ⟨g, l7⟩
  · rw [hn] at h1
    obtain ⟨rfl, hk⟩ := h1
    have HE := Lib.hid (fldErr (s := s) (show r = .error c from by rw [HR6.out]; exact andR_err hn _) (HW6.out.1.kr hk) (keep2 HW6.out.2.2 hk HB.out.2.2.2.2.2))
    clear hn hk HC
    (try simp only [Exit.inBlock, Exit.then])
    exact bodyPost_pan (P := Try.prog) (fn := Try.f23) rfl HE.out
  rw [hn] at h1
  obtain ⟨rfl, h1, hk⟩ := h1
  have HR7 := Lib.hid (show r = finR { ({ zeroP with kind := 4, frm := f, dst := t, ce := c1.1, cr := (c1.2 : Int) } : Pkt) with pe := a.1, pr := (a.2 : Int), epoch := b, mem := g } l7 from by rw [HR6.out]; exact andR_ok hn _)
  have HW7 := Lib.hid (And.intro (HW6.out.1.kr hk) (And.intro (keep2 HW6.out.2.1 hk HB.out.1) (keep2 HW6.out.2.2 hk HB.out.2.2.2.2.2)))
  have HS7 := Lib.hid h1
  clear hk h1 hn HC
  refine hK.out _ _ (fun _ => (cell_of_row _ _ 0 _ _ _ HW7.out.2.1)) ?_
  clear hK K
  simp only [Act.put, List.setIfInBounds_toArray, List.set_cons_zero, List.set_cons_succ]
  refine wpAnyS_ready (rs := [8]) (by kernel_rfl) (by simp) ?_
  refine AllReadyS.cons rfl (fun K hK => ?_) AllReadyS.nil
  go_simp
  refine hK.out _ _ (fun _ => (cell_of_row _ _ 0 _ _ _ HW7.out.2.1)) ?_
  clear hK K
  simp only [Act.put, List.setIfInBounds_toArray, List.set_cons_zero, List.set_cons_succ]
  refine wpAnyS_ready (rs := [9]) (by kernel_rfl) (by simp) ?_
  refine AllReadyS.cons rfl (fun K hK => ?_) AllReadyS.nil
  go_simp
  refine hK.out _ _ (fun _ => (cell_of_row _ _ 0 _ _ _ HW7.out.2.1)) ?_
  clear hK K
  simp only [Act.put, List.setIfInBounds_toArray, List.set_cons_zero, List.set_cons_succ]
  refine wpAnyS_ready (rs := [10]) (by kernel_rfl) (by simp) ?_
  refine AllReadyS.cons rfl (fun K hK => ?_) AllReadyS.nil
  have d20 : v7.cell? ⟨Pb, 20, none⟩ = some (.int .u64 0) := cell_of_row _ _ 20 _ _ _ HW7.out.2.2
  have f20 : v7.frozen? ⟨Pb, 20, none⟩ = false := frozen_of_row _ _ _ _ _ HW7.out.2.2
  go_simp
  obtain ⟨v8, hV⟩ : ∃ v8, v8 = (v7.setCell ⟨Pb, 20, none⟩ (.int .u64 (b : Int))) := ⟨_, rfl⟩
  have HW8 := Lib.hid (show KP R Pb w v8 ∧ v8.heap[N]? = some (.cells #[.pointer (some ⟨R, 0, none⟩)] 63 (0, 0)) ∧ v8.heap[Pb]? = some (.cells (pktA { zeroP with kind := 4, frm := f, dst := t, ce := c1.1, cr := (c1.2 : Int), pe := a.1, pr := (a.2 : Int), epoch := b }) 35 (0, 0)) from by
    rw [hV]
    refine ⟨((HW7.out.1).st 20 (.int .u64 (b : Int))), ?_, (setCell_block (HW7.out.2.2) 20 (.int .u64 (b : Int)))⟩
    exact ((keptS _ ⟨Pb, 20, none⟩ (.int .u64 (b : Int))).keep (HW7.out.2.1) HB.out.2.1))
  have HS8 := Lib.hid (show RdL v8 R s l7 from by rw [hV]; exact (RdL.kept (HS7.out) (keptS _ ⟨Pb, 20, none⟩ (.int .u64 (b : Int))) (fun e => HB.out.2.2.2.2.2 e.symm)))
  have HR8 := HR7
  rw [← hV]
  refine hK.out _ _ (fun _ => (cell_of_row _ _ 0 _ _ _ HW8.out.2.1)) ?_
  clear hK K hV d20 f20
  simp only [Act.put, List.setIfInBounds_toArray, List.set_cons_zero, List.set_cons_succ]
  refine wpAnyS_ready (rs := [11]) (by kernel_rfl) (by simp) ?_
  refine AllReadyS.cons rfl (fun K hK => ?_) AllReadyS.nil
  go_simp
  refine hK.out _ _ (fun _ => (cell_of_row _ _ 0 _ _ _ HW8.out.2.1)) ?_
  clear hK K
  simp only [Act.put, List.setIfInBounds_toArray, List.set_cons_zero, List.set_cons_succ]
  refine wpAnyS_ready (rs := [12]) (by kernel_rfl) (by simp) ?_
  refine AllReadyS.cons rfl (fun K hK => ?_) AllReadyS.nil
  go_simp
  refine hK.out _ _ (fun _ => (cell_of_row _ _ 0 _ _ _ HW8.out.2.1)) ?_
  clear hK K
  simp only [Act.put, List.setIfInBounds_toArray, List.set_cons_zero, List.set_cons_succ]
  refine wpAnyS_ready (rs := [13]) (by kernel_rfl) (by simp) ?_
  refine AllReadyS.cons rfl (fun K hK => ?_) AllReadyS.nil
  have d17 : v8.cell? ⟨Pb, 17, none⟩ = some (.int .u64 0) := cell_of_row _ _ 17 _ _ _ HW8.out.2.2
  have f17 : v8.frozen? ⟨Pb, 17, none⟩ = false := frozen_of_row _ _ _ _ _ HW8.out.2.2
  go_simp
  obtain ⟨v9, hV⟩ : ∃ v9, v9 = (v8.setCell ⟨Pb, 17, none⟩ (.int .u64 (g : Int))) := ⟨_, rfl⟩
  have HW9 := Lib.hid (show KP R Pb w v9 ∧ v9.heap[N]? = some (.cells #[.pointer (some ⟨R, 0, none⟩)] 63 (0, 0)) ∧ v9.heap[Pb]? = some (.cells (pktA { zeroP with kind := 4, frm := f, dst := t, ce := c1.1, cr := (c1.2 : Int), pe := a.1, pr := (a.2 : Int), epoch := b, mem := g }) 35 (0, 0)) from by
    rw [hV]
    refine ⟨((HW8.out.1).st 17 (.int .u64 (g : Int))), ?_, (setCell_block (HW8.out.2.2) 17 (.int .u64 (g : Int)))⟩
    exact ((keptS _ ⟨Pb, 17, none⟩ (.int .u64 (g : Int))).keep (HW8.out.2.1) HB.out.2.1))
  have HS9 := Lib.hid (show RdL v9 R s l7 from by rw [hV]; exact (RdL.kept (HS8.out) (keptS _ ⟨Pb, 17, none⟩ (.int .u64 (g : Int))) (fun e => HB.out.2.2.2.2.2 e.symm)))
  have HR9 := HR8
  rw [← hV]
  refine hK.out _ _ (fun _ => (cell_of_row _ _ 0 _ _ _ HW9.out.2.1)) ?_
  clear hK K hV d17 f17
  simp only [Act.put, List.setIfInBounds_toArray, List.set_cons_zero, List.set_cons_succ]
  refine wpAnyS_doneP (by kernel_rfl) ?_ _
  have c0 : v9.cell? ⟨N, 0, none⟩ = some (.pointer (some ⟨R, 0, none⟩)) := cell_of_row _ _ 0 _ _ _ HW9.out.2.1
  have HC := Lib.hid (left_rd HS9.out)
  go_upto_region 30 with (fail)
  go_wp2_with fail
  refine HC.out.mono ?_
  rintro e v10 ⟨rfl, hb⟩
  have HW := Lib.hid (And.intro (HW9.out.1.kr (KR.below hb)) ((hb.block _ (Array.getElem?_eq_some_iff.1 HW9.out.2.2).1).trans HW9.out.2.2))
  have HO := Lib.hid (show OwnPk w.heap.size v10 { zeroP with kind := 4, frm := f, dst := t, ce := c1.1, cr := (c1.2 : Int), pe := a.1, pr := (a.2 : Int), epoch := b, mem := g } from ⟨.nil _ _, .nil _ _, ⟨rfl, .inl ⟨rfl, rfl⟩⟩, fun x hx => by cases hx⟩)
  clear hb c0 HC
  by_cases h4 : 0 < l7.length
  · have HE := Lib.hid (fldErr (s := s) (show r = .error 4 from by rw [HR9.out]; exact if_pos h4) HW.out.1 HW.out.2)
    have d1 : decide (0 < l7.length) = true := by rw [decide_eq_true_eq]; exact h4
    have d2 : decide ((0 : Int) < (l7.length : Int)) = true := by rw [decide_eq_true_eq]; omega
    clear h4
    go_wp2_with (go_at_call 50; refine (bad_so 4 _).mono ?_; rintro e w' ⟨rfl, rfl⟩)
    exact bodyPost_pan rfl HE.out
  · have HE := Lib.hid (show FldEnd R Pb s w r (.returned (.tuple #[])) v10 from by
      rw [show r = .ok ({ ({ zeroP with kind := 4, frm := f, dst := t, ce := c1.1, cr := (c1.2 : Int) } : Pkt) with pe := a.1, pr := (a.2 : Int), epoch := b, mem := g }, l7) from by rw [HR9.out]; exact if_neg h4]
      exact ⟨rfl, HW.out.1, _, HW.out.2, rfl, HO.out⟩)
    have d1 : decide (0 < l7.length) = false := by rw [decide_eq_false_iff_not]; exact h4
    have d2 : decide ((0 : Int) < (l7.length : Int)) = false := by rw [decide_eq_false_iff_not]; omega
    clear h4
    go_wp2_with (go_at_call 50; refine (bad_no 4 _).mono ?_; rintro e w' ⟨rfl, rfl⟩)
    go_end0
    exact HE.out
set_option maxRecDepth 100000 in
set_option maxHeartbeats 16000000 in
theorem fld5_rd {w : World} {R Pb : Nat} {s : ByteArray} {l0 : List UInt8} (h : RdL w R s l0) (f t : Int) (hp : w.heap[Pb]? = some (.cells (pktA { zeroP with kind := 5, frm := f, dst := t }) 35 (0, 0))) (hne : Pb ≠ R) :
    Calls Try.prog 23 #[.agg #[.pointer (some ⟨R, 0, none⟩)], .pointer (some ⟨Pb, 0, none⟩)] w fun e w' => FldEnd R Pb s w (rdBody 5 f t l0) e w' := by
  obtain ⟨N, hN⟩ : ∃ N, N = w.heap.size := ⟨_, rfl⟩
  obtain ⟨v0, hW⟩ : ∃ v0, v0 = w.alloc (.cells #[.pointer (some ⟨R, 0, none⟩)] 63) := ⟨_, rfl⟩
  have hbA := ba (br w) (.cells #[.pointer (some ⟨R, 0, none⟩)] 63)
  have n1 := heap_alloc_new w (.cells #[.pointer (some ⟨R, 0, none⟩)] 63)
  rw [← hW] at n1 hbA
  rw [← hN] at n1
  have hPl := (Array.getElem?_eq_some_iff.1 hp).1
  have HB := Lib.hid (show N ≠ R ∧ N ≠ Pb ∧ R < w.heap.size ∧ Pb < w.heap.size ∧ N = w.heap.size ∧ Pb ≠ R from ⟨by have := h.lt; omega, by omega, h.lt, hPl, hN, hne⟩)
  have c0 : v0.cell? ⟨N, 0, none⟩ = some (.pointer (some ⟨R, 0, none⟩)) := cell_of_row _ _ 0 _ _ _ n1
  have HS0 := Lib.hid (h.below hbA)
  have HW0 := Lib.hid (And.intro ((KP.refl R Pb w).kr (KR.below hbA)) (And.intro n1 ((hbA.block _ hPl).trans hp)))
  obtain ⟨r, hr⟩ : ∃ r, r = rdBody 5 f t l0 := ⟨_, rfl⟩
  rw [← hr]
  have HR0 := Lib.hid hr
  clear n1 hbA h hr hp hne hPl
  go_enter Try.func23, Try.ntmps23
  go_upto_region 1 with (fail)
  rw [← hW, ← hN]
  clear hW hN
  have c0 : v0.cell? ⟨N, 0, none⟩ = some (.pointer (some ⟨R, 0, none⟩)) := cell_of_row _ _ 0 _ _ _ HW0.out.2.1
  have HC := Lib.hid (conf_rd HS0.out)
  go_wp2_with fail
  refine HC.out.mono ?_
  intro e v1 h1
  rcases hn : rdConf l0 with c | ⟨c1, l1⟩
  · rw [hn] at h1
    obtain ⟨rfl, hk⟩ := h1
    have HE := Lib.hid (fldErr (s := s) (show r = .error c from by rw [HR0.out]; exact andR_err hn _) (HW0.out.1.kr hk) (keep2 HW0.out.2.2 hk HB.out.2.2.2.2.2))
    clear hn hk HC
    (try simp only [Exit.inBlock, Exit.then])
    exact bodyPost_pan (P := Try.prog) (fn := Try.f23) rfl HE.out
  rw [hn] at h1
  obtain ⟨rfl, h1, hk⟩ := h1
  have HR1 := Lib.hid (show r = rdK5 { zeroP with kind := 5, frm := f, dst := t, ce := c1.1, cr := (c1.2 : Int) } l1 from by rw [HR0.out]; exact andR_ok hn _)
  have HW1 := Lib.hid (And.intro (HW0.out.1.kr hk) (And.intro (keep2 HW0.out.2.1 hk HB.out.1) (keep2 HW0.out.2.2 hk HB.out.2.2.2.2.2)))
  have HS1 := Lib.hid h1
  clear hk h1 hn HC
  clear c0
  have c0 : v1.cell? ⟨N, 0, none⟩ = some (.pointer (some ⟨R, 0, none⟩)) := cell_of_row _ _ 0 _ _ _ HW1.out.2.1
  have d3 : v1.cell? ⟨Pb, 3, none⟩ = some (.int .u64 0) := cell_of_row _ _ 3 _ _ _ HW1.out.2.2
  have f3 : v1.frozen? ⟨Pb, 3, none⟩ = false := frozen_of_row _ _ _ _ _ HW1.out.2.2
  have d4 : v1.cell? ⟨Pb, 4, none⟩ = some (.int .i64 0) := cell_of_row _ _ 4 _ _ _ HW1.out.2.2
  have f4 : v1.frozen? ⟨Pb, 4, none⟩ = false := frozen_of_row _ _ _ _ _ HW1.out.2.2
  go_upto_region 2 with (fail)
  obtain ⟨v2, hV⟩ : ∃ v2, v2 = ((v1.setCell ⟨Pb, 3, none⟩ (.int .u64 (c1.1 : Int))).setCell ⟨Pb, 4, none⟩ (.int .i64 (c1.2 : Int))) := ⟨_, rfl⟩
  have HW2 := Lib.hid (show KP R Pb w v2 ∧ v2.heap[N]? = some (.cells #[.pointer (some ⟨R, 0, none⟩)] 63 (0, 0)) ∧ v2.heap[Pb]? = some (.cells (pktA { zeroP with kind := 5, frm := f, dst := t, ce := c1.1, cr := (c1.2 : Int) }) 35 (0, 0)) from by
    rw [hV]
    refine ⟨((((HW1.out.1).st 3 (.int .u64 (c1.1 : Int)))).st 4 (.int .i64 (c1.2 : Int))), ?_, (setCell_block ((setCell_block (HW1.out.2.2) 3 (.int .u64 (c1.1 : Int)))) 4 (.int .i64 (c1.2 : Int)))⟩
    exact ((keptS _ ⟨Pb, 4, none⟩ (.int .i64 (c1.2 : Int))).keep (((keptS _ ⟨Pb, 3, none⟩ (.int .u64 (c1.1 : Int))).keep (HW1.out.2.1) HB.out.2.1)) HB.out.2.1))
  have HS2 := Lib.hid (show RdL v2 R s l1 from by rw [hV]; exact (RdL.kept ((RdL.kept (HS1.out) (keptS _ ⟨Pb, 3, none⟩ (.int .u64 (c1.1 : Int))) (fun e => HB.out.2.2.2.2.2 e.symm))) (keptS _ ⟨Pb, 4, none⟩ (.int .i64 (c1.2 : Int))) (fun e => HB.out.2.2.2.2.2 e.symm)))
  have HR2 := HR1
  rw [← hV]
  clear hV c0 d3 f3 d4 f4
  have q0 : v2.cell? ⟨Pb, 0, none⟩ = some (.int .i64 5) := cell_of_row _ _ 0 _ _ _ HW2.out.2.2
  go_upto_region 16 with (fail)
  clear q0
  have c0 : v2.cell? ⟨N, 0, none⟩ = some (.pointer (some ⟨R, 0, none⟩)) := cell_of_row _ _ 0 _ _ _ HW2.out.2.1
  have HC := Lib.hid (num_rd HS2.out 8 (by omega) (by omega))
  go_wp2_with fail
  refine HC.out.mono ?_
  intro e v3 h1
  rcases hn : rdN 8 l1 with c | ⟨a, l3⟩
  · rw [hn] at h1
    obtain ⟨rfl, hk⟩ := h1
    have HE := Lib.hid (fldErr (s := s) (show r = .error c from by rw [HR2.out]; unfold rdK5; exact andR_err hn _) (HW2.out.1.kr hk) (keep2 HW2.out.2.2 hk HB.out.2.2.2.2.2))
    clear hn hk HC
    (try simp only [Exit.inBlock, Exit.then])
    exact bodyPost_pan (P := Try.prog) (fn := Try.f23) rfl HE.out
  rw [hn] at h1
  obtain ⟨rfl, h1, hk⟩ := h1
  have HR3 := Lib.hid (show r = finR { ({ zeroP with kind := 5, frm := f, dst := t, ce := c1.1, cr := (c1.2 : Int) } : Pkt) with mem := a } l3 from by rw [HR2.out]; unfold rdK5; exact andR_ok hn _)
  have HW3 := Lib.hid (And.intro (HW2.out.1.kr hk) (And.intro (keep2 HW2.out.2.1 hk HB.out.1) (keep2 HW2.out.2.2 hk HB.out.2.2.2.2.2)))
  have HS3 := Lib.hid h1
  clear hk h1 hn HC
  clear c0
  have c0 : v3.cell? ⟨N, 0, none⟩ = some (.pointer (some ⟨R, 0, none⟩)) := cell_of_row _ _ 0 _ _ _ HW3.out.2.1
  have d17 : v3.cell? ⟨Pb, 17, none⟩ = some (.int .u64 0) := cell_of_row _ _ 17 _ _ _ HW3.out.2.2
  have f17 : v3.frozen? ⟨Pb, 17, none⟩ = false := frozen_of_row _ _ _ _ _ HW3.out.2.2
  go_upto_region 30 with (fail)
  obtain ⟨v4, hV⟩ : ∃ v4, v4 = (v3.setCell ⟨Pb, 17, none⟩ (.int .u64 (a : Int))) := ⟨_, rfl⟩
  have HW4 := Lib.hid (show KP R Pb w v4 ∧ v4.heap[N]? = some (.cells #[.pointer (some ⟨R, 0, none⟩)] 63 (0, 0)) ∧ v4.heap[Pb]? = some (.cells (pktA { zeroP with kind := 5, frm := f, dst := t, ce := c1.1, cr := (c1.2 : Int), mem := a }) 35 (0, 0)) from by
    rw [hV]
    refine ⟨((HW3.out.1).st 17 (.int .u64 (a : Int))), ?_, (setCell_block (HW3.out.2.2) 17 (.int .u64 (a : Int)))⟩
    exact ((keptS _ ⟨Pb, 17, none⟩ (.int .u64 (a : Int))).keep (HW3.out.2.1) HB.out.2.1))
  have HS4 := Lib.hid (show RdL v4 R s l3 from by rw [hV]; exact (RdL.kept (HS3.out) (keptS _ ⟨Pb, 17, none⟩ (.int .u64 (a : Int))) (fun e => HB.out.2.2.2.2.2 e.symm)))
  have HR4 := HR3
  rw [← hV]
  clear hV c0 d17 f17
  have c0 : v4.cell? ⟨N, 0, none⟩ = some (.pointer (some ⟨R, 0, none⟩)) := cell_of_row _ _ 0 _ _ _ HW4.out.2.1
  have HC := Lib.hid (left_rd HS4.out)
  go_upto_region 30 with (fail)
  go_wp2_with fail
  refine HC.out.mono ?_
  rintro e v5 ⟨rfl, hb⟩
  have HW := Lib.hid (And.intro (HW4.out.1.kr (KR.below hb)) ((hb.block _ (Array.getElem?_eq_some_iff.1 HW4.out.2.2).1).trans HW4.out.2.2))
  have HO := Lib.hid (show OwnPk w.heap.size v5 { zeroP with kind := 5, frm := f, dst := t, ce := c1.1, cr := (c1.2 : Int), mem := a } from ⟨.nil _ _, .nil _ _, ⟨rfl, .inl ⟨rfl, rfl⟩⟩, fun x hx => by cases hx⟩)
  clear hb c0 HC
  by_cases h4 : 0 < l3.length
  · have HE := Lib.hid (fldErr (s := s) (show r = .error 4 from by rw [HR4.out]; exact if_pos h4) HW.out.1 HW.out.2)
    have d1 : decide (0 < l3.length) = true := by rw [decide_eq_true_eq]; exact h4
    have d2 : decide ((0 : Int) < (l3.length : Int)) = true := by rw [decide_eq_true_eq]; omega
    clear h4
    go_wp2_with (go_at_call 50; refine (bad_so 4 _).mono ?_; rintro e w' ⟨rfl, rfl⟩)
    exact bodyPost_pan rfl HE.out
  · have HE := Lib.hid (show FldEnd R Pb s w r (.returned (.tuple #[])) v5 from by
      rw [show r = .ok ({ ({ zeroP with kind := 5, frm := f, dst := t, ce := c1.1, cr := (c1.2 : Int) } : Pkt) with mem := a }, l3) from by rw [HR4.out]; exact if_neg h4]
      exact ⟨rfl, HW.out.1, _, HW.out.2, rfl, HO.out⟩)
    have d1 : decide (0 < l3.length) = false := by rw [decide_eq_false_iff_not]; exact h4
    have d2 : decide ((0 : Int) < (l3.length : Int)) = false := by rw [decide_eq_false_iff_not]; omega
    clear h4
    go_wp2_with (go_at_call 50; refine (bad_no 4 _).mono ?_; rintro e w' ⟨rfl, rfl⟩)
    go_end0
    exact HE.out
set_option maxRecDepth 100000 in
set_option maxHeartbeats 16000000 in
theorem fld8_rd {w : World} {R Pb : Nat} {s : ByteArray} {l0 : List UInt8} (h : RdL w R s l0) (f t : Int) (hp : w.heap[Pb]? = some (.cells (pktA { zeroP with kind := 8, frm := f, dst := t }) 35 (0, 0))) (hne : Pb ≠ R) :
    Calls Try.prog 23 #[.agg #[.pointer (some ⟨R, 0, none⟩)], .pointer (some ⟨Pb, 0, none⟩)] w fun e w' => FldEnd R Pb s w (rdBody 8 f t l0) e w' := by
  obtain ⟨N, hN⟩ : ∃ N, N = w.heap.size := ⟨_, rfl⟩
  obtain ⟨v0, hW⟩ : ∃ v0, v0 = w.alloc (.cells #[.pointer (some ⟨R, 0, none⟩)] 63) := ⟨_, rfl⟩
  have hbA := ba (br w) (.cells #[.pointer (some ⟨R, 0, none⟩)] 63)
  have n1 := heap_alloc_new w (.cells #[.pointer (some ⟨R, 0, none⟩)] 63)
  rw [← hW] at n1 hbA
  rw [← hN] at n1
  have hPl := (Array.getElem?_eq_some_iff.1 hp).1
  have HB := Lib.hid (show N ≠ R ∧ N ≠ Pb ∧ R < w.heap.size ∧ Pb < w.heap.size ∧ N = w.heap.size ∧ Pb ≠ R from ⟨by have := h.lt; omega, by omega, h.lt, hPl, hN, hne⟩)
  have c0 : v0.cell? ⟨N, 0, none⟩ = some (.pointer (some ⟨R, 0, none⟩)) := cell_of_row _ _ 0 _ _ _ n1
  have HS0 := Lib.hid (h.below hbA)
  have HW0 := Lib.hid (And.intro ((KP.refl R Pb w).kr (KR.below hbA)) (And.intro n1 ((hbA.block _ hPl).trans hp)))
  obtain ⟨r, hr⟩ : ∃ r, r = rdBody 8 f t l0 := ⟨_, rfl⟩
  rw [← hr]
  have HR0 := Lib.hid hr
  clear n1 hbA h hr hp hne hPl
  go_enter Try.func23, Try.ntmps23
  go_upto_region 1 with (fail)
  rw [← hW, ← hN]
  clear hW hN
  have c0 : v0.cell? ⟨N, 0, none⟩ = some (.pointer (some ⟨R, 0, none⟩)) := cell_of_row _ _ 0 _ _ _ HW0.out.2.1
  have HC := Lib.hid (conf_rd HS0.out)
  go_wp2_with fail
  refine HC.out.mono ?_
  intro e v1 h1
  rcases hn : rdConf l0 with c | ⟨c1, l1⟩
  · rw [hn] at h1
    obtain ⟨rfl, hk⟩ := h1
    have HE := Lib.hid (fldErr (s := s) (show r = .error c from by rw [HR0.out]; exact andR_err hn _) (HW0.out.1.kr hk) (keep2 HW0.out.2.2 hk HB.out.2.2.2.2.2))
    clear hn hk HC
    (try simp only [Exit.inBlock, Exit.then])
    exact bodyPost_pan (P := Try.prog) (fn := Try.f23) rfl HE.out
  rw [hn] at h1
  obtain ⟨rfl, h1, hk⟩ := h1
  have HR1 := Lib.hid (show r = rdK3 { zeroP with kind := 8, frm := f, dst := t, ce := c1.1, cr := (c1.2 : Int) } l1 from by rw [HR0.out]; exact andR_ok hn _)
  have HW1 := Lib.hid (And.intro (HW0.out.1.kr hk) (And.intro (keep2 HW0.out.2.1 hk HB.out.1) (keep2 HW0.out.2.2 hk HB.out.2.2.2.2.2)))
  have HS1 := Lib.hid h1
  clear hk h1 hn HC
  clear c0
  have c0 : v1.cell? ⟨N, 0, none⟩ = some (.pointer (some ⟨R, 0, none⟩)) := cell_of_row _ _ 0 _ _ _ HW1.out.2.1
  have d3 : v1.cell? ⟨Pb, 3, none⟩ = some (.int .u64 0) := cell_of_row _ _ 3 _ _ _ HW1.out.2.2
  have f3 : v1.frozen? ⟨Pb, 3, none⟩ = false := frozen_of_row _ _ _ _ _ HW1.out.2.2
  have d4 : v1.cell? ⟨Pb, 4, none⟩ = some (.int .i64 0) := cell_of_row _ _ 4 _ _ _ HW1.out.2.2
  have f4 : v1.frozen? ⟨Pb, 4, none⟩ = false := frozen_of_row _ _ _ _ _ HW1.out.2.2
  go_upto_region 2 with (fail)
  obtain ⟨v2, hV⟩ : ∃ v2, v2 = ((v1.setCell ⟨Pb, 3, none⟩ (.int .u64 (c1.1 : Int))).setCell ⟨Pb, 4, none⟩ (.int .i64 (c1.2 : Int))) := ⟨_, rfl⟩
  have HW2 := Lib.hid (show KP R Pb w v2 ∧ v2.heap[N]? = some (.cells #[.pointer (some ⟨R, 0, none⟩)] 63 (0, 0)) ∧ v2.heap[Pb]? = some (.cells (pktA { zeroP with kind := 8, frm := f, dst := t, ce := c1.1, cr := (c1.2 : Int) }) 35 (0, 0)) from by
    rw [hV]
    refine ⟨((((HW1.out.1).st 3 (.int .u64 (c1.1 : Int)))).st 4 (.int .i64 (c1.2 : Int))), ?_, (setCell_block ((setCell_block (HW1.out.2.2) 3 (.int .u64 (c1.1 : Int)))) 4 (.int .i64 (c1.2 : Int)))⟩
    exact ((keptS _ ⟨Pb, 4, none⟩ (.int .i64 (c1.2 : Int))).keep (((keptS _ ⟨Pb, 3, none⟩ (.int .u64 (c1.1 : Int))).keep (HW1.out.2.1) HB.out.2.1)) HB.out.2.1))
  have HS2 := Lib.hid (show RdL v2 R s l1 from by rw [hV]; exact (RdL.kept ((RdL.kept (HS1.out) (keptS _ ⟨Pb, 3, none⟩ (.int .u64 (c1.1 : Int))) (fun e => HB.out.2.2.2.2.2 e.symm))) (keptS _ ⟨Pb, 4, none⟩ (.int .i64 (c1.2 : Int))) (fun e => HB.out.2.2.2.2.2 e.symm)))
  have HR2 := HR1
  rw [← hV]
  clear hV c0 d3 f3 d4 f4
  have q0 : v2.cell? ⟨Pb, 0, none⟩ = some (.int .i64 8) := cell_of_row _ _ 0 _ _ _ HW2.out.2.2
  go_upto_region 11 with (fail)
  clear q0
  have c0 : v2.cell? ⟨N, 0, none⟩ = some (.pointer (some ⟨R, 0, none⟩)) := cell_of_row _ _ 0 _ _ _ HW2.out.2.1
  have HC := Lib.hid (proc_rd HS2.out)
  go_upto_region 11 with (fail)
  have HS3 := Lib.hid (HS2.out.below (br v2).drew)
  have HW3 := Lib.hid (show KP R Pb w v2.drew ∧ _ ∧ _ from And.intro (HW2.out.1.kr (KR.below (br v2).drew)) (And.intro (show v2.drew.heap[N]? = _ from HW2.out.2.1) (show v2.drew.heap[Pb]? = _ from HW2.out.2.2)))
  have HR3 := HR2
  clear HC
  refine wp_region_maskP (fun w' => w'.cell? ⟨N, 0, none⟩ = some (.pointer (some ⟨R, 0, none⟩))) 13 9 [true, true, true, false, true, true, false, false, false, false, false, false, false, false] #[true, true, true, false, true, true, false, false, false, false, false, false, false, false] (by kernel_rfl) (by kernel_rfl) (by kernel_rfl) (fun c a d v w h => by cases d <;> exact h) (cell_of_row _ _ 0 _ _ _ HW3.out.2.1) ?_
  clear c0
  generalize v2.drew = v3 at *
  have HC := Lib.hid (proc_rd HS3.out)
  refine wpMask_take _ (Or.inl ⟨by rfl, fun w' hS => by (try dsimp only at hS); go_simp; try with_reducible rfl⟩) ?_
  simp only [Act.put, List.setIfInBounds_toArray, List.set_cons_zero, List.set_cons_succ]
  refine wpMask_take _ (Or.inl ⟨by rfl, fun w' hS => by (try dsimp only at hS); go_simp; try with_reducible rfl⟩) ?_
  simp only [Act.put, List.setIfInBounds_toArray, List.set_cons_zero, List.set_cons_succ]
  refine wpMask_take _ (Or.inl ⟨by rfl, fun w' hS => by (try dsimp only at hS); go_simp; try with_reducible rfl⟩) ?_
  simp only [Act.put, List.setIfInBounds_toArray, List.set_cons_zero, List.set_cons_succ]
  refine wpMask_skip ?_
  refine wpMask_take _ (Or.inl ⟨by rfl, fun w' hS => by (try dsimp only at hS); go_simp; try with_reducible rfl⟩) ?_
  simp only [Act.put, List.setIfInBounds_toArray, List.set_cons_zero, List.set_cons_succ]
  refine wpMask_take _ (Or.inl ⟨by rfl, fun w' hS => by (try dsimp only at hS); go_simp; try with_reducible rfl⟩) ?_
  simp only [Act.put, List.setIfInBounds_toArray, List.set_cons_zero, List.set_cons_succ]
  refine wpMask_skip (wpMask_skip (wpMask_skip (wpMask_skip (wpMask_skip (wpMask_skip (wpMask_skip (wpMask_skip (wpMask_nil ?_))))))))
  refine wpAnyS_ready (rs := [3]) (by kernel_rfl) (by simp) ?_
  refine AllReadyS.cons rfl (fun K hK => ?_) AllReadyS.nil
  go_simp
  refine HC.out.mono ?_
  intro e v4 h1
  rcases hn : rdProc l1 with c | ⟨a, l4⟩
  · rw [hn] at h1
    obtain ⟨rfl, hk⟩ := h1
    have HE := Lib.hid (fldErr (s := s) (show r = .error c from by rw [HR3.out]; exact andR_err hn _) (HW3.out.1.kr hk) (keep2 HW3.out.2.2 hk HB.out.2.2.2.2.2))
    clear hn hk HC
    (try simp only [Exit.inBlock, Exit.then])
    exact bodyPost_pan (P := Try.prog) (fn := Try.f23) rfl HE.out
  rw [hn] at h1
  obtain ⟨rfl, h1, hk⟩ := h1
  have HR4 := Lib.hid (show r = andR (rdN 4 l4) fun b l => finR { ({ zeroP with kind := 8, frm := f, dst := t, ce := c1.1, cr := (c1.2 : Int) } : Pkt) with whom := (a : Int), seq := b } l from by rw [HR3.out]; exact andR_ok hn _)
  have HW4 := Lib.hid (And.intro (HW3.out.1.kr hk) (And.intro (keep2 HW3.out.2.1 hk HB.out.1) (keep2 HW3.out.2.2 hk HB.out.2.2.2.2.2)))
  have HS4 := Lib.hid h1
  clear hk h1 hn HC
  refine hK.out _ _ (fun _ => (cell_of_row _ _ 0 _ _ _ HW4.out.2.1)) ?_
  clear hK K
  simp only [Act.put, List.setIfInBounds_toArray, List.set_cons_zero, List.set_cons_succ]
  have HC := Lib.hid (num_rd HS4.out 4 (by omega) (by omega))
  refine wpAnyS_ready (rs := [6]) (by kernel_rfl) (by simp) ?_
  refine AllReadyS.cons rfl (fun K hK => ?_) AllReadyS.nil
  go_simp
  refine HC.out.mono ?_
  intro e v5 h1
  rcases hn : rdN 4 l4 with c | ⟨b, l5⟩
  · rw [hn] at h1
    obtain ⟨rfl, hk⟩ := h1
    have HE := Lib.hid (fldErr (s := s) (show r = .error c from by rw [HR4.out]; exact andR_err hn _) (HW4.out.1.kr hk) (keep2 HW4.out.2.2 hk HB.out.2.2.2.2.2))
    clear hn hk HC
    (try simp only [Exit.inBlock, Exit.then])
    exact bodyPost_pan (P := Try.prog) (fn := Try.f23) rfl HE.out
  rw [hn] at h1
  obtain ⟨rfl, h1, hk⟩ := h1
  have HR5 := Lib.hid (show r = finR { ({ zeroP with kind := 8, frm := f, dst := t, ce := c1.1, cr := (c1.2 : Int) } : Pkt) with whom := (a : Int), seq := b } l5 from by rw [HR4.out]; exact andR_ok hn _)
  have HW5 := Lib.hid (And.intro (HW4.out.1.kr hk) (And.intro (keep2 HW4.out.2.1 hk HB.out.1) (keep2 HW4.out.2.2 hk HB.out.2.2.2.2.2)))
  have HS5 := Lib.hid h1
  have hw : IntKind.u32.wrap (b : Int) = (b : Int) := by have := (rdN_lt (by omega) hn).1; rw [IntKind.wrap_u32]; simp at this; omega
  clear hk h1 hn HC
  refine hK.out _ _ (fun _ => (cell_of_row _ _ 0 _ _ _ HW5.out.2.1)) ?_
  clear hK K
  simp only [Act.put, List.setIfInBounds_toArray, List.set_cons_zero, List.set_cons_succ]
  refine wpAnyS_takeP (i := 7) _ (fun c a d v w h => by cases d <;> exact h) rfl (by kernel_rfl) (Or.inl ⟨by rfl, fun w' hS => by (try dsimp only at hS); go_simp; try with_reducible rfl⟩) (cell_of_row _ _ 0 _ _ _ HW5.out.2.1) ?_
  simp only [Act.put, List.setIfInBounds_toArray, List.set_cons_zero, List.set_cons_succ, List.getElem_toArray, List.getElem_cons_succ, List.getElem_cons_zero]
  clear hw
  refine wpAnyS_ready (rs := [8]) (by kernel_rfl) (by simp) ?_
  refine AllReadyS.cons rfl (fun K hK => ?_) AllReadyS.nil
  go_simp
  refine hK.out _ _ (fun _ => (cell_of_row _ _ 0 _ _ _ HW5.out.2.1)) ?_
  clear hK K
  simp only [Act.put, List.setIfInBounds_toArray, List.set_cons_zero, List.set_cons_succ]
  refine wpAnyS_ready (rs := [9]) (by kernel_rfl) (by simp) ?_
  refine AllReadyS.cons rfl (fun K hK => ?_) AllReadyS.nil
  go_simp
  refine hK.out _ _ (fun _ => (cell_of_row _ _ 0 _ _ _ HW5.out.2.1)) ?_
  clear hK K
  simp only [Act.put, List.setIfInBounds_toArray, List.set_cons_zero, List.set_cons_succ]
  refine wpAnyS_ready (rs := [10]) (by kernel_rfl) (by simp) ?_
  refine AllReadyS.cons rfl (fun K hK => ?_) AllReadyS.nil
  have d15 : v5.cell? ⟨Pb, 15, none⟩ = some (.int .i64 0) := cell_of_row _ _ 15 _ _ _ HW5.out.2.2
  have f15 : v5.frozen? ⟨Pb, 15, none⟩ = false := frozen_of_row _ _ _ _ _ HW5.out.2.2
  go_simp
  obtain ⟨v6, hV⟩ : ∃ v6, v6 = (v5.setCell ⟨Pb, 15, none⟩ (.int .i64 (a : Int))) := ⟨_, rfl⟩
  have HW6 := Lib.hid (show KP R Pb w v6 ∧ v6.heap[N]? = some (.cells #[.pointer (some ⟨R, 0, none⟩)] 63 (0, 0)) ∧ v6.heap[Pb]? = some (.cells (pktA { zeroP with kind := 8, frm := f, dst := t, ce := c1.1, cr := (c1.2 : Int), whom := (a : Int) }) 35 (0, 0)) from by
    rw [hV]
    refine ⟨((HW5.out.1).st 15 (.int .i64 (a : Int))), ?_, (setCell_block (HW5.out.2.2) 15 (.int .i64 (a : Int)))⟩
    exact ((keptS _ ⟨Pb, 15, none⟩ (.int .i64 (a : Int))).keep (HW5.out.2.1) HB.out.2.1))
  have HS6 := Lib.hid (show RdL v6 R s l5 from by rw [hV]; exact (RdL.kept (HS5.out) (keptS _ ⟨Pb, 15, none⟩ (.int .i64 (a : Int))) (fun e => HB.out.2.2.2.2.2 e.symm)))
  have HR6 := HR5
  rw [← hV]
  refine hK.out _ _ (fun _ => (cell_of_row _ _ 0 _ _ _ HW6.out.2.1)) ?_
  clear hK K hV d15 f15
  simp only [Act.put, List.setIfInBounds_toArray, List.set_cons_zero, List.set_cons_succ]
  refine wpAnyS_ready (rs := [11]) (by kernel_rfl) (by simp) ?_
  refine AllReadyS.cons rfl (fun K hK => ?_) AllReadyS.nil
  go_simp
  refine hK.out _ _ (fun _ => (cell_of_row _ _ 0 _ _ _ HW6.out.2.1)) ?_
  clear hK K
  simp only [Act.put, List.setIfInBounds_toArray, List.set_cons_zero, List.set_cons_succ]
  refine wpAnyS_ready (rs := [12]) (by kernel_rfl) (by simp) ?_
  refine AllReadyS.cons rfl (fun K hK => ?_) AllReadyS.nil
  go_simp
  refine hK.out _ _ (fun _ => (cell_of_row _ _ 0 _ _ _ HW6.out.2.1)) ?_
  clear hK K
  simp only [Act.put, List.setIfInBounds_toArray, List.set_cons_zero, List.set_cons_succ]
  refine wpAnyS_ready (rs := [13]) (by kernel_rfl) (by simp) ?_
  refine AllReadyS.cons rfl (fun K hK => ?_) AllReadyS.nil
  have d16 : v6.cell? ⟨Pb, 16, none⟩ = some (.int .u32 0) := cell_of_row _ _ 16 _ _ _ HW6.out.2.2
  have f16 : v6.frozen? ⟨Pb, 16, none⟩ = false := frozen_of_row _ _ _ _ _ HW6.out.2.2
  go_simp
  obtain ⟨v7, hV⟩ : ∃ v7, v7 = (v6.setCell ⟨Pb, 16, none⟩ (.int .u32 (b : Int))) := ⟨_, rfl⟩
  have HW7 := Lib.hid (show KP R Pb w v7 ∧ v7.heap[N]? = some (.cells #[.pointer (some ⟨R, 0, none⟩)] 63 (0, 0)) ∧ v7.heap[Pb]? = some (.cells (pktA { zeroP with kind := 8, frm := f, dst := t, ce := c1.1, cr := (c1.2 : Int), whom := (a : Int), seq := b }) 35 (0, 0)) from by
    rw [hV]
    refine ⟨((HW6.out.1).st 16 (.int .u32 (b : Int))), ?_, (setCell_block (HW6.out.2.2) 16 (.int .u32 (b : Int)))⟩
    exact ((keptS _ ⟨Pb, 16, none⟩ (.int .u32 (b : Int))).keep (HW6.out.2.1) HB.out.2.1))
  have HS7 := Lib.hid (show RdL v7 R s l5 from by rw [hV]; exact (RdL.kept (HS6.out) (keptS _ ⟨Pb, 16, none⟩ (.int .u32 (b : Int))) (fun e => HB.out.2.2.2.2.2 e.symm)))
  have HR7 := HR6
  rw [← hV]
  refine hK.out _ _ (fun _ => (cell_of_row _ _ 0 _ _ _ HW7.out.2.1)) ?_
  clear hK K hV d16 f16
  simp only [Act.put, List.setIfInBounds_toArray, List.set_cons_zero, List.set_cons_succ]
  refine wpAnyS_doneP (by kernel_rfl) ?_ _
  have c0 : v7.cell? ⟨N, 0, none⟩ = some (.pointer (some ⟨R, 0, none⟩)) := cell_of_row _ _ 0 _ _ _ HW7.out.2.1
  have HC := Lib.hid (left_rd HS7.out)
  go_upto_region 30 with (fail)
  go_wp2_with fail
  refine HC.out.mono ?_
  rintro e v8 ⟨rfl, hb⟩
  have HW := Lib.hid (And.intro (HW7.out.1.kr (KR.below hb)) ((hb.block _ (Array.getElem?_eq_some_iff.1 HW7.out.2.2).1).trans HW7.out.2.2))
  have HO := Lib.hid (show OwnPk w.heap.size v8 { zeroP with kind := 8, frm := f, dst := t, ce := c1.1, cr := (c1.2 : Int), whom := (a : Int), seq := b } from ⟨.nil _ _, .nil _ _, ⟨rfl, .inl ⟨rfl, rfl⟩⟩, fun x hx => by cases hx⟩)
  clear hb c0 HC
  by_cases h4 : 0 < l5.length
  · have HE := Lib.hid (fldErr (s := s) (show r = .error 4 from by rw [HR7.out]; exact if_pos h4) HW.out.1 HW.out.2)
    have d1 : decide (0 < l5.length) = true := by rw [decide_eq_true_eq]; exact h4
    have d2 : decide ((0 : Int) < (l5.length : Int)) = true := by rw [decide_eq_true_eq]; omega
    clear h4
    go_wp2_with (go_at_call 50; refine (bad_so 4 _).mono ?_; rintro e w' ⟨rfl, rfl⟩)
    exact bodyPost_pan rfl HE.out
  · have HE := Lib.hid (show FldEnd R Pb s w r (.returned (.tuple #[])) v8 from by
      rw [show r = .ok ({ ({ zeroP with kind := 8, frm := f, dst := t, ce := c1.1, cr := (c1.2 : Int) } : Pkt) with whom := (a : Int), seq := b }, l5) from by rw [HR7.out]; exact if_neg h4]
      exact ⟨rfl, HW.out.1, _, HW.out.2, rfl, HO.out⟩)
    have d1 : decide (0 < l5.length) = false := by rw [decide_eq_false_iff_not]; exact h4
    have d2 : decide ((0 : Int) < (l5.length : Int)) = false := by rw [decide_eq_false_iff_not]; omega
    clear h4
    go_wp2_with (go_at_call 50; refine (bad_no 4 _).mono ?_; rintro e w' ⟨rfl, rfl⟩)
    go_end0
    exact HE.out
set_option maxRecDepth 100000 in
set_option maxHeartbeats 16000000 in
theorem fld9_rd {w : World} {R Pb : Nat} {s : ByteArray} {l0 : List UInt8} (h : RdL w R s l0) (f t : Int) (hp : w.heap[Pb]? = some (.cells (pktA { zeroP with kind := 9, frm := f, dst := t }) 35 (0, 0))) (hne : Pb ≠ R) :
    Calls Try.prog 23 #[.agg #[.pointer (some ⟨R, 0, none⟩)], .pointer (some ⟨Pb, 0, none⟩)] w fun e w' => FldEnd R Pb s w (rdBody 9 f t l0) e w' := by
  obtain ⟨N, hN⟩ : ∃ N, N = w.heap.size := ⟨_, rfl⟩
  obtain ⟨v0, hW⟩ : ∃ v0, v0 = w.alloc (.cells #[.pointer (some ⟨R, 0, none⟩)] 63) := ⟨_, rfl⟩
  have hbA := ba (br w) (.cells #[.pointer (some ⟨R, 0, none⟩)] 63)
  have n1 := heap_alloc_new w (.cells #[.pointer (some ⟨R, 0, none⟩)] 63)
  rw [← hW] at n1 hbA
  rw [← hN] at n1
  have hPl := (Array.getElem?_eq_some_iff.1 hp).1
  have HB := Lib.hid (show N ≠ R ∧ N ≠ Pb ∧ R < w.heap.size ∧ Pb < w.heap.size ∧ N = w.heap.size ∧ Pb ≠ R from ⟨by have := h.lt; omega, by omega, h.lt, hPl, hN, hne⟩)
  have c0 : v0.cell? ⟨N, 0, none⟩ = some (.pointer (some ⟨R, 0, none⟩)) := cell_of_row _ _ 0 _ _ _ n1
  have HS0 := Lib.hid (h.below hbA)
  have HW0 := Lib.hid (And.intro ((KP.refl R Pb w).kr (KR.below hbA)) (And.intro n1 ((hbA.block _ hPl).trans hp)))
  obtain ⟨r, hr⟩ : ∃ r, r = rdBody 9 f t l0 := ⟨_, rfl⟩
  rw [← hr]
  have HR0 := Lib.hid hr
  clear n1 hbA h hr hp hne hPl
  go_enter Try.func23, Try.ntmps23
  go_upto_region 1 with (fail)
  rw [← hW, ← hN]
  clear hW hN
  have c0 : v0.cell? ⟨N, 0, none⟩ = some (.pointer (some ⟨R, 0, none⟩)) := cell_of_row _ _ 0 _ _ _ HW0.out.2.1
  have HC := Lib.hid (conf_rd HS0.out)
  go_wp2_with fail
  refine HC.out.mono ?_
  intro e v1 h1
  rcases hn : rdConf l0 with c | ⟨c1, l1⟩
  · rw [hn] at h1
    obtain ⟨rfl, hk⟩ := h1
    have HE := Lib.hid (fldErr (s := s) (show r = .error c from by rw [HR0.out]; exact andR_err hn _) (HW0.out.1.kr hk) (keep2 HW0.out.2.2 hk HB.out.2.2.2.2.2))
    clear hn hk HC
    (try simp only [Exit.inBlock, Exit.then])
    exact bodyPost_pan (P := Try.prog) (fn := Try.f23) rfl HE.out
  rw [hn] at h1
  obtain ⟨rfl, h1, hk⟩ := h1
  have HR1 := Lib.hid (show r = rdK9 { zeroP with kind := 9, frm := f, dst := t, ce := c1.1, cr := (c1.2 : Int) } l1 from by rw [HR0.out]; exact andR_ok hn _)
  have HW1 := Lib.hid (And.intro (HW0.out.1.kr hk) (And.intro (keep2 HW0.out.2.1 hk HB.out.1) (keep2 HW0.out.2.2 hk HB.out.2.2.2.2.2)))
  have HS1 := Lib.hid h1
  clear hk h1 hn HC
  clear c0
  have c0 : v1.cell? ⟨N, 0, none⟩ = some (.pointer (some ⟨R, 0, none⟩)) := cell_of_row _ _ 0 _ _ _ HW1.out.2.1
  have d3 : v1.cell? ⟨Pb, 3, none⟩ = some (.int .u64 0) := cell_of_row _ _ 3 _ _ _ HW1.out.2.2
  have f3 : v1.frozen? ⟨Pb, 3, none⟩ = false := frozen_of_row _ _ _ _ _ HW1.out.2.2
  have d4 : v1.cell? ⟨Pb, 4, none⟩ = some (.int .i64 0) := cell_of_row _ _ 4 _ _ _ HW1.out.2.2
  have f4 : v1.frozen? ⟨Pb, 4, none⟩ = false := frozen_of_row _ _ _ _ _ HW1.out.2.2
  go_upto_region 2 with (fail)
  obtain ⟨v2, hV⟩ : ∃ v2, v2 = ((v1.setCell ⟨Pb, 3, none⟩ (.int .u64 (c1.1 : Int))).setCell ⟨Pb, 4, none⟩ (.int .i64 (c1.2 : Int))) := ⟨_, rfl⟩
  have HW2 := Lib.hid (show KP R Pb w v2 ∧ v2.heap[N]? = some (.cells #[.pointer (some ⟨R, 0, none⟩)] 63 (0, 0)) ∧ v2.heap[Pb]? = some (.cells (pktA { zeroP with kind := 9, frm := f, dst := t, ce := c1.1, cr := (c1.2 : Int) }) 35 (0, 0)) from by
    rw [hV]
    refine ⟨((((HW1.out.1).st 3 (.int .u64 (c1.1 : Int)))).st 4 (.int .i64 (c1.2 : Int))), ?_, (setCell_block ((setCell_block (HW1.out.2.2) 3 (.int .u64 (c1.1 : Int)))) 4 (.int .i64 (c1.2 : Int)))⟩
    exact ((keptS _ ⟨Pb, 4, none⟩ (.int .i64 (c1.2 : Int))).keep (((keptS _ ⟨Pb, 3, none⟩ (.int .u64 (c1.1 : Int))).keep (HW1.out.2.1) HB.out.2.1)) HB.out.2.1))
  have HS2 := Lib.hid (show RdL v2 R s l1 from by rw [hV]; exact (RdL.kept ((RdL.kept (HS1.out) (keptS _ ⟨Pb, 3, none⟩ (.int .u64 (c1.1 : Int))) (fun e => HB.out.2.2.2.2.2 e.symm))) (keptS _ ⟨Pb, 4, none⟩ (.int .i64 (c1.2 : Int))) (fun e => HB.out.2.2.2.2.2 e.symm)))
  have HR2 := HR1
  rw [← hV]
  clear hV c0 d3 f3 d4 f4
  have q0 : v2.cell? ⟨Pb, 0, none⟩ = some (.int .i64 9) := cell_of_row _ _ 0 _ _ _ HW2.out.2.2
  go_upto_region 28 with (fail)
  clear q0
  have c0 : v2.cell? ⟨N, 0, none⟩ = some (.pointer (some ⟨R, 0, none⟩)) := cell_of_row _ _ 0 _ _ _ HW2.out.2.1
  have HC := Lib.hid (proc_rd HS2.out)
  go_wp2_with fail
  refine HC.out.mono ?_
  intro e v3 h1
  rcases hn : rdProc l1 with c | ⟨a, l3⟩
  · rw [hn] at h1
    obtain ⟨rfl, hk⟩ := h1
    have HE := Lib.hid (fldErr (s := s) (show r = .error c from by rw [HR2.out]; unfold rdK9; exact andR_err hn _) (HW2.out.1.kr hk) (keep2 HW2.out.2.2 hk HB.out.2.2.2.2.2))
    clear hn hk HC
    (try simp only [Exit.inBlock, Exit.then])
    exact bodyPost_pan (P := Try.prog) (fn := Try.f23) rfl HE.out
  rw [hn] at h1
  obtain ⟨rfl, h1, hk⟩ := h1
  have HR3 := Lib.hid (show r = andR (rdMsg (a : Int) l3) fun m l => finR { ({ zeroP with kind := 9, frm := f, dst := t, ce := c1.1, cr := (c1.2 : Int) } : Pkt) with whom := (a : Int), m := m } l from by rw [HR2.out]; unfold rdK9; exact andR_ok hn _)
  have HW3 := Lib.hid (And.intro (HW2.out.1.kr hk) (And.intro (keep2 HW2.out.2.1 hk HB.out.1) (keep2 HW2.out.2.2 hk HB.out.2.2.2.2.2)))
  have HS3 := Lib.hid h1
  clear hk h1 hn HC
  clear c0
  have c0 : v3.cell? ⟨N, 0, none⟩ = some (.pointer (some ⟨R, 0, none⟩)) := cell_of_row _ _ 0 _ _ _ HW3.out.2.1
  have d15 : v3.cell? ⟨Pb, 15, none⟩ = some (.int .i64 0) := cell_of_row _ _ 15 _ _ _ HW3.out.2.2
  have f15 : v3.frozen? ⟨Pb, 15, none⟩ = false := frozen_of_row _ _ _ _ _ HW3.out.2.2
  go_upto_region 29 with (fail)
  obtain ⟨v4, hV⟩ : ∃ v4, v4 = (v3.setCell ⟨Pb, 15, none⟩ (.int .i64 (a : Int))) := ⟨_, rfl⟩
  have HW4 := Lib.hid (show KP R Pb w v4 ∧ v4.heap[N]? = some (.cells #[.pointer (some ⟨R, 0, none⟩)] 63 (0, 0)) ∧ v4.heap[Pb]? = some (.cells (pktA { zeroP with kind := 9, frm := f, dst := t, ce := c1.1, cr := (c1.2 : Int), whom := (a : Int) }) 35 (0, 0)) from by
    rw [hV]
    refine ⟨((HW3.out.1).st 15 (.int .i64 (a : Int))), ?_, (setCell_block (HW3.out.2.2) 15 (.int .i64 (a : Int)))⟩
    exact ((keptS _ ⟨Pb, 15, none⟩ (.int .i64 (a : Int))).keep (HW3.out.2.1) HB.out.2.1))
  have HS4 := Lib.hid (show RdL v4 R s l3 from by rw [hV]; exact (RdL.kept (HS3.out) (keptS _ ⟨Pb, 15, none⟩ (.int .i64 (a : Int))) (fun e => HB.out.2.2.2.2.2 e.symm)))
  have HR4 := HR3
  rw [← hV]
  clear hV c0 d15 f15
  have c0 : v4.cell? ⟨N, 0, none⟩ = some (.pointer (some ⟨R, 0, none⟩)) := cell_of_row _ _ 0 _ _ _ HW4.out.2.1
  have p15 : v4.cell? ⟨Pb, 15, none⟩ = some (.int .i64 (a : Int)) := cell_of_row _ _ 15 _ _ _ HW4.out.2.2
  have HC := Lib.hid (msg_rd HS4.out (a : Int))
  go_upto_region 29 with (fail)
  have HS5 := Lib.hid (HS4.out.below (br v4).drew)
  have HW5 := Lib.hid (show KP R Pb w v4.drew ∧ _ ∧ _ from And.intro (HW4.out.1.kr (KR.below (br v4).drew)) (And.intro (show v4.drew.heap[N]? = _ from HW4.out.2.1) (show v4.drew.heap[Pb]? = _ from HW4.out.2.2)))
  have HR5 := HR4
  clear HC
  refine wp_region_maskP (fun w' => w'.cell? ⟨N, 0, none⟩ = some (.pointer (some ⟨R, 0, none⟩)) ∧ w'.cell? ⟨Pb, 15, none⟩ = some (.int .i64 (a : Int))) 9 4 [true, true, true, true, true, true, false, false, false, false] #[true, true, true, true, true, true, false, false, false, false] (by kernel_rfl) (by kernel_rfl) (by kernel_rfl) (fun c a d v w h => by cases d <;> exact h) ⟨cell_of_row _ _ 0 _ _ _ HW5.out.2.1, cell_of_row _ _ 15 _ _ _ HW5.out.2.2⟩ ?_
  clear c0 p15
  generalize v4.drew = v5 at *
  have HC := Lib.hid (msg_rd HS5.out (a : Int))
  refine wpMask_take _ (Or.inl ⟨by rfl, fun w' hS => by (try dsimp only at hS); go_simp; try with_reducible rfl⟩) ?_
  simp only [Act.put, List.setIfInBounds_toArray, List.set_cons_zero, List.set_cons_succ]
  refine wpMask_take _ (Or.inl ⟨by rfl, fun w' hS => by (try dsimp only at hS); go_simp; try with_reducible rfl⟩) ?_
  simp only [Act.put, List.setIfInBounds_toArray, List.set_cons_zero, List.set_cons_succ]
  refine wpMask_take _ (Or.inl ⟨by rfl, fun w' hS => by (try dsimp only at hS); go_simp; try with_reducible rfl⟩) ?_
  simp only [Act.put, List.setIfInBounds_toArray, List.set_cons_zero, List.set_cons_succ]
  refine wpMask_take _ (Or.inl ⟨by rfl, fun w' hS => by (try dsimp only at hS); go_simp; try with_reducible rfl⟩) ?_
  simp only [Act.put, List.setIfInBounds_toArray, List.set_cons_zero, List.set_cons_succ]
  refine wpMask_take _ (Or.inl ⟨by rfl, fun w' hS => by (try dsimp only at hS); go_simp; try with_reducible rfl⟩) ?_
  simp only [Act.put, List.setIfInBounds_toArray, List.set_cons_zero, List.set_cons_succ]
  refine wpMask_take _ (Or.inl ⟨by rfl, fun w' hS => by (try dsimp only at hS); go_simp; try with_reducible rfl⟩) ?_
  simp only [Act.put, List.setIfInBounds_toArray, List.set_cons_zero, List.set_cons_succ]
  refine wpMask_skip (wpMask_skip (wpMask_skip (wpMask_skip (wpMask_nil ?_))))
  refine wpAnyS_ready (rs := [6]) (by kernel_rfl) (by simp) ?_
  refine AllReadyS.cons rfl (fun K hK => ?_) AllReadyS.nil
  go_simp
  refine HC.out.mono ?_
  intro e v6 h1
  rcases hn : rdMsg (a : Int) l3 with c | ⟨m, l6⟩
  · rw [hn] at h1
    obtain ⟨rfl, hk⟩ := h1
    have HE := Lib.hid (fldErr (s := s) (show r = .error c from by rw [HR5.out]; exact andR_err hn _) (HW5.out.1.kr hk) (keep2 HW5.out.2.2 hk HB.out.2.2.2.2.2))
    clear hn hk HC
    (try simp only [Exit.inBlock, Exit.then])
    exact bodyPost_pan (P := Try.prog) (fn := Try.f23) rfl HE.out
  rw [hn] at h1
  obtain ⟨⟨ad, cap, rfl, ho⟩, h1, hk⟩ := h1
  have HR6 := Lib.hid (show r = finR { ({ zeroP with kind := 9, frm := f, dst := t, ce := c1.1, cr := (c1.2 : Int) } : Pkt) with whom := (a : Int), m := m } l6 from by rw [HR5.out]; exact andR_ok hn _)
  have HW6 := Lib.hid (And.intro (HW5.out.1.kr hk) (And.intro (keep2 HW5.out.2.1 hk HB.out.1) (keep2 HW5.out.2.2 hk HB.out.2.2.2.2.2)))
  have HS6 := Lib.hid h1
  have HO1 := Lib.hid (show OwnN w.heap.size v6 ad m.ds cap from ownMore ho HW5.out.1.size)
  clear ho
  clear hk h1 hn HC
  refine hK.out _ _ (fun _ => ⟨cell_of_row _ _ 0 _ _ _ HW6.out.2.1, cell_of_row _ _ 15 _ _ _ HW6.out.2.2⟩) ?_
  clear hK K
  simp only [Act.put, List.setIfInBounds_toArray, List.set_cons_zero, List.set_cons_succ]
  refine wpAnyS_ready (rs := [7]) (by kernel_rfl) (by simp) ?_
  refine AllReadyS.cons rfl (fun K hK => ?_) AllReadyS.nil
  go_simp
  refine hK.out _ _ (fun _ => ⟨cell_of_row _ _ 0 _ _ _ HW6.out.2.1, cell_of_row _ _ 15 _ _ _ HW6.out.2.2⟩) ?_
  clear hK K
  simp only [Act.put, List.setIfInBounds_toArray, List.set_cons_zero, List.set_cons_succ]
  refine wpAnyS_ready (rs := [8]) (by kernel_rfl) (by simp) ?_
  refine AllReadyS.cons rfl (fun K hK => ?_) AllReadyS.nil
  go_simp
  refine hK.out _ _ (fun _ => ⟨cell_of_row _ _ 0 _ _ _ HW6.out.2.1, cell_of_row _ _ 15 _ _ _ HW6.out.2.2⟩) ?_
  clear hK K
  simp only [Act.put, List.setIfInBounds_toArray, List.set_cons_zero, List.set_cons_succ]
  refine wpAnyS_ready (rs := [9]) (by kernel_rfl) (by simp) ?_
  refine AllReadyS.cons rfl (fun K hK => ?_) AllReadyS.nil
  have d5 : v6.cell? ⟨Pb, 5, none⟩ = some (.int .i64 0) := cell_of_row _ _ 5 _ _ _ HW6.out.2.2
  have f5 : v6.frozen? ⟨Pb, 5, none⟩ = false := frozen_of_row _ _ _ _ _ HW6.out.2.2
  have d6 : v6.cell? ⟨Pb, 6, none⟩ = some (.int .u32 0) := cell_of_row _ _ 6 _ _ _ HW6.out.2.2
  have f6 : v6.frozen? ⟨Pb, 6, none⟩ = false := frozen_of_row _ _ _ _ _ HW6.out.2.2
  have d7 : v6.cell? ⟨Pb, 7, none⟩ = some (.int .u64 0) := cell_of_row _ _ 7 _ _ _ HW6.out.2.2
  have f7 : v6.frozen? ⟨Pb, 7, none⟩ = false := frozen_of_row _ _ _ _ _ HW6.out.2.2
  have d8 : v6.cell? ⟨Pb, 8, none⟩ = some (.int .i64 0) := cell_of_row _ _ 8 _ _ _ HW6.out.2.2
  have f8 : v6.frozen? ⟨Pb, 8, none⟩ = false := frozen_of_row _ _ _ _ _ HW6.out.2.2
  have d9 : v6.cell? ⟨Pb, 9, none⟩ = some (.slice none 0 0) := cell_of_row _ _ 9 _ _ _ HW6.out.2.2
  have f9 : v6.frozen? ⟨Pb, 9, none⟩ = false := frozen_of_row _ _ _ _ _ HW6.out.2.2
  have d10 : v6.cell? ⟨Pb, 10, none⟩ = some (.string ⟨#[]⟩) := cell_of_row _ _ 10 _ _ _ HW6.out.2.2
  have f10 : v6.frozen? ⟨Pb, 10, none⟩ = false := frozen_of_row _ _ _ _ _ HW6.out.2.2
  rw [show msgA { m with da := ad, dc := cap } = #[.int .i64 m.frm, .int .u32 (m.seq : Int), .int .u64 (m.stamp : Int), .int .i64 m.service, .slice ad m.ds.length cap, .string m.pay] from rfl]
  go_simp
  obtain ⟨v7, hV⟩ : ∃ v7, v7 = ((((((v6.setCell ⟨Pb, 5, none⟩ (.int .i64 m.frm)).setCell ⟨Pb, 6, none⟩ (.int .u32 (m.seq : Int))).setCell ⟨Pb, 7, none⟩ (.int .u64 (m.stamp : Int))).setCell ⟨Pb, 8, none⟩ (.int .i64 m.service)).setCell ⟨Pb, 9, none⟩ (.slice ad m.ds.length cap)).setCell ⟨Pb, 10, none⟩ (.string m.pay)) := ⟨_, rfl⟩
  have HW7 := Lib.hid (show KP R Pb w v7 ∧ v7.heap[N]? = some (.cells #[.pointer (some ⟨R, 0, none⟩)] 63 (0, 0)) ∧ v7.heap[Pb]? = some (.cells (pktA { zeroP with kind := 9, frm := f, dst := t, ce := c1.1, cr := (c1.2 : Int), whom := (a : Int), m := { m with da := ad, dc := cap } }) 35 (0, 0)) from by
    rw [hV]
    refine ⟨((((((((((((HW6.out.1).st 5 (.int .i64 m.frm))).st 6 (.int .u32 (m.seq : Int)))).st 7 (.int .u64 (m.stamp : Int)))).st 8 (.int .i64 m.service))).st 9 (.slice ad m.ds.length cap))).st 10 (.string m.pay)), ?_, (setCell_block ((setCell_block ((setCell_block ((setCell_block ((setCell_block ((setCell_block (HW6.out.2.2) 5 (.int .i64 m.frm))) 6 (.int .u32 (m.seq : Int)))) 7 (.int .u64 (m.stamp : Int)))) 8 (.int .i64 m.service))) 9 (.slice ad m.ds.length cap))) 10 (.string m.pay))⟩
    exact ((keptS _ ⟨Pb, 10, none⟩ (.string m.pay)).keep (((keptS _ ⟨Pb, 9, none⟩ (.slice ad m.ds.length cap)).keep (((keptS _ ⟨Pb, 8, none⟩ (.int .i64 m.service)).keep (((keptS _ ⟨Pb, 7, none⟩ (.int .u64 (m.stamp : Int))).keep (((keptS _ ⟨Pb, 6, none⟩ (.int .u32 (m.seq : Int))).keep (((keptS _ ⟨Pb, 5, none⟩ (.int .i64 m.frm)).keep (HW6.out.2.1) HB.out.2.1)) HB.out.2.1)) HB.out.2.1)) HB.out.2.1)) HB.out.2.1)) HB.out.2.1))
  have HS7 := Lib.hid (show RdL v7 R s l6 from by rw [hV]; exact (RdL.kept ((RdL.kept ((RdL.kept ((RdL.kept ((RdL.kept ((RdL.kept (HS6.out) (keptS _ ⟨Pb, 5, none⟩ (.int .i64 m.frm)) (fun e => HB.out.2.2.2.2.2 e.symm))) (keptS _ ⟨Pb, 6, none⟩ (.int .u32 (m.seq : Int))) (fun e => HB.out.2.2.2.2.2 e.symm))) (keptS _ ⟨Pb, 7, none⟩ (.int .u64 (m.stamp : Int))) (fun e => HB.out.2.2.2.2.2 e.symm))) (keptS _ ⟨Pb, 8, none⟩ (.int .i64 m.service)) (fun e => HB.out.2.2.2.2.2 e.symm))) (keptS _ ⟨Pb, 9, none⟩ (.slice ad m.ds.length cap)) (fun e => HB.out.2.2.2.2.2 e.symm))) (keptS _ ⟨Pb, 10, none⟩ (.string m.pay)) (fun e => HB.out.2.2.2.2.2 e.symm)))
  have HO2 := Lib.hid (by have := ((((((((((((HO1.out).st HB.out.2.2.2.1 5 (.int .i64 m.frm))).st HB.out.2.2.2.1 6 (.int .u32 (m.seq : Int)))).st HB.out.2.2.2.1 7 (.int .u64 (m.stamp : Int)))).st HB.out.2.2.2.1 8 (.int .i64 m.service))).st HB.out.2.2.2.1 9 (.slice ad m.ds.length cap))).st HB.out.2.2.2.1 10 (.string m.pay)); rw [← hV] at this; exact this)
  have HR7 := HR6
  rw [← hV]
  refine hK.out _ _ (fun _ => ⟨cell_of_row _ _ 0 _ _ _ HW7.out.2.1, cell_of_row _ _ 15 _ _ _ HW7.out.2.2⟩) ?_
  clear hK K hV d5 f5 d6 f6 d7 f7 d8 f8 d9 f9 d10 f10
  simp only [Act.put, List.setIfInBounds_toArray, List.set_cons_zero, List.set_cons_succ]
  refine wpAnyS_doneP (by kernel_rfl) ?_ _
  have c0 : v7.cell? ⟨N, 0, none⟩ = some (.pointer (some ⟨R, 0, none⟩)) := cell_of_row _ _ 0 _ _ _ HW7.out.2.1
  have HC := Lib.hid (left_rd HS7.out)
  go_upto_region 30 with (fail)
  go_wp2_with fail
  refine HC.out.mono ?_
  rintro e v8 ⟨rfl, hb⟩
  have HW := Lib.hid (And.intro (HW7.out.1.kr (KR.below hb)) ((hb.block _ (Array.getElem?_eq_some_iff.1 HW7.out.2.2).1).trans HW7.out.2.2))
  have HO := Lib.hid (show OwnPk w.heap.size v8 { zeroP with kind := 9, frm := f, dst := t, ce := c1.1, cr := (c1.2 : Int), whom := (a : Int), m := { m with da := ad, dc := cap } } from ⟨.nil _ _, (HO2.out.below hb), ⟨rfl, .inl ⟨rfl, rfl⟩⟩, fun x hx => by cases hx⟩)
  clear hb c0 HC
  by_cases h4 : 0 < l6.length
  · have HE := Lib.hid (fldErr (s := s) (show r = .error 4 from by rw [HR7.out]; exact if_pos h4) HW.out.1 HW.out.2)
    have d1 : decide (0 < l6.length) = true := by rw [decide_eq_true_eq]; exact h4
    have d2 : decide ((0 : Int) < (l6.length : Int)) = true := by rw [decide_eq_true_eq]; omega
    clear h4
    go_wp2_with (go_at_call 50; refine (bad_so 4 _).mono ?_; rintro e w' ⟨rfl, rfl⟩)
    exact bodyPost_pan rfl HE.out
  · have HE := Lib.hid (show FldEnd R Pb s w r (.returned (.tuple #[])) v8 from by
      rw [show r = .ok ({ ({ zeroP with kind := 9, frm := f, dst := t, ce := c1.1, cr := (c1.2 : Int) } : Pkt) with whom := (a : Int), m := m }, l6) from by rw [HR7.out]; exact if_neg h4]
      exact ⟨rfl, HW.out.1, _, HW.out.2, rfl, HO.out⟩)
    have d1 : decide (0 < l6.length) = false := by rw [decide_eq_false_iff_not]; exact h4
    have d2 : decide ((0 : Int) < (l6.length : Int)) = false := by rw [decide_eq_false_iff_not]; omega
    clear h4
    go_wp2_with (go_at_call 50; refine (bad_no 4 _).mono ?_; rintro e w' ⟨rfl, rfl⟩)
    go_end0
    exact HE.out
set_option maxRecDepth 100000 in
set_option maxHeartbeats 16000000 in
theorem fld10_rd {w : World} {R Pb : Nat} {s : ByteArray} {l0 : List UInt8} (h : RdL w R s l0) (f t : Int) (hp : w.heap[Pb]? = some (.cells (pktA { zeroP with kind := 10, frm := f, dst := t }) 35 (0, 0))) (hne : Pb ≠ R) :
    Calls Try.prog 23 #[.agg #[.pointer (some ⟨R, 0, none⟩)], .pointer (some ⟨Pb, 0, none⟩)] w fun e w' => FldEnd R Pb s w (rdBody 10 f t l0) e w' := by
  obtain ⟨N, hN⟩ : ∃ N, N = w.heap.size := ⟨_, rfl⟩
  obtain ⟨v0, hW⟩ : ∃ v0, v0 = w.alloc (.cells #[.pointer (some ⟨R, 0, none⟩)] 63) := ⟨_, rfl⟩
  have hbA := ba (br w) (.cells #[.pointer (some ⟨R, 0, none⟩)] 63)
  have n1 := heap_alloc_new w (.cells #[.pointer (some ⟨R, 0, none⟩)] 63)
  rw [← hW] at n1 hbA
  rw [← hN] at n1
  have hPl := (Array.getElem?_eq_some_iff.1 hp).1
  have HB := Lib.hid (show N ≠ R ∧ N ≠ Pb ∧ R < w.heap.size ∧ Pb < w.heap.size ∧ N = w.heap.size ∧ Pb ≠ R from ⟨by have := h.lt; omega, by omega, h.lt, hPl, hN, hne⟩)
  have c0 : v0.cell? ⟨N, 0, none⟩ = some (.pointer (some ⟨R, 0, none⟩)) := cell_of_row _ _ 0 _ _ _ n1
  have HS0 := Lib.hid (h.below hbA)
  have HW0 := Lib.hid (And.intro ((KP.refl R Pb w).kr (KR.below hbA)) (And.intro n1 ((hbA.block _ hPl).trans hp)))
  obtain ⟨r, hr⟩ : ∃ r, r = rdBody 10 f t l0 := ⟨_, rfl⟩
  rw [← hr]
  have HR0 := Lib.hid hr
  clear n1 hbA h hr hp hne hPl
  go_enter Try.func23, Try.ntmps23
  go_upto_region 1 with (fail)
  rw [← hW, ← hN]
  clear hW hN
  have c0 : v0.cell? ⟨N, 0, none⟩ = some (.pointer (some ⟨R, 0, none⟩)) := cell_of_row _ _ 0 _ _ _ HW0.out.2.1
  have HC := Lib.hid (conf_rd HS0.out)
  go_wp2_with fail
  refine HC.out.mono ?_
  intro e v1 h1
  rcases hn : rdConf l0 with c | ⟨c1, l1⟩
  · rw [hn] at h1
    obtain ⟨rfl, hk⟩ := h1
    have HE := Lib.hid (fldErr (s := s) (show r = .error c from by rw [HR0.out]; exact andR_err hn _) (HW0.out.1.kr hk) (keep2 HW0.out.2.2 hk HB.out.2.2.2.2.2))
    clear hn hk HC
    (try simp only [Exit.inBlock, Exit.then])
    exact bodyPost_pan (P := Try.prog) (fn := Try.f23) rfl HE.out
  rw [hn] at h1
  obtain ⟨rfl, h1, hk⟩ := h1
  have HR1 := Lib.hid (show r = finR { zeroP with kind := 10, frm := f, dst := t, ce := c1.1, cr := (c1.2 : Int) } l1 from by rw [HR0.out]; exact andR_ok hn _)
  have HW1 := Lib.hid (And.intro (HW0.out.1.kr hk) (And.intro (keep2 HW0.out.2.1 hk HB.out.1) (keep2 HW0.out.2.2 hk HB.out.2.2.2.2.2)))
  have HS1 := Lib.hid h1
  clear hk h1 hn HC
  clear c0
  have c0 : v1.cell? ⟨N, 0, none⟩ = some (.pointer (some ⟨R, 0, none⟩)) := cell_of_row _ _ 0 _ _ _ HW1.out.2.1
  have d3 : v1.cell? ⟨Pb, 3, none⟩ = some (.int .u64 0) := cell_of_row _ _ 3 _ _ _ HW1.out.2.2
  have f3 : v1.frozen? ⟨Pb, 3, none⟩ = false := frozen_of_row _ _ _ _ _ HW1.out.2.2
  have d4 : v1.cell? ⟨Pb, 4, none⟩ = some (.int .i64 0) := cell_of_row _ _ 4 _ _ _ HW1.out.2.2
  have f4 : v1.frozen? ⟨Pb, 4, none⟩ = false := frozen_of_row _ _ _ _ _ HW1.out.2.2
  go_upto_region 2 with (fail)
  obtain ⟨v2, hV⟩ : ∃ v2, v2 = ((v1.setCell ⟨Pb, 3, none⟩ (.int .u64 (c1.1 : Int))).setCell ⟨Pb, 4, none⟩ (.int .i64 (c1.2 : Int))) := ⟨_, rfl⟩
  have HW2 := Lib.hid (show KP R Pb w v2 ∧ v2.heap[N]? = some (.cells #[.pointer (some ⟨R, 0, none⟩)] 63 (0, 0)) ∧ v2.heap[Pb]? = some (.cells (pktA { zeroP with kind := 10, frm := f, dst := t, ce := c1.1, cr := (c1.2 : Int) }) 35 (0, 0)) from by
    rw [hV]
    refine ⟨((((HW1.out.1).st 3 (.int .u64 (c1.1 : Int)))).st 4 (.int .i64 (c1.2 : Int))), ?_, (setCell_block ((setCell_block (HW1.out.2.2) 3 (.int .u64 (c1.1 : Int)))) 4 (.int .i64 (c1.2 : Int)))⟩
    exact ((keptS _ ⟨Pb, 4, none⟩ (.int .i64 (c1.2 : Int))).keep (((keptS _ ⟨Pb, 3, none⟩ (.int .u64 (c1.1 : Int))).keep (HW1.out.2.1) HB.out.2.1)) HB.out.2.1))
  have HS2 := Lib.hid (show RdL v2 R s l1 from by rw [hV]; exact (RdL.kept ((RdL.kept (HS1.out) (keptS _ ⟨Pb, 3, none⟩ (.int .u64 (c1.1 : Int))) (fun e => HB.out.2.2.2.2.2 e.symm))) (keptS _ ⟨Pb, 4, none⟩ (.int .i64 (c1.2 : Int))) (fun e => HB.out.2.2.2.2.2 e.symm)))
  have HR2 := HR1
  rw [← hV]
  clear hV c0 d3 f3 d4 f4
  have q0 : v2.cell? ⟨Pb, 0, none⟩ = some (.int .i64 10) := cell_of_row _ _ 0 _ _ _ HW2.out.2.2
  go_upto_region 30 with (fail)
  clear q0
  have c0 : v2.cell? ⟨N, 0, none⟩ = some (.pointer (some ⟨R, 0, none⟩)) := cell_of_row _ _ 0 _ _ _ HW2.out.2.1
  have HC := Lib.hid (left_rd HS2.out)
  go_upto_region 30 with (fail)
  go_wp2_with fail
  refine HC.out.mono ?_
  rintro e v3 ⟨rfl, hb⟩
  have HW := Lib.hid (And.intro (HW2.out.1.kr (KR.below hb)) ((hb.block _ (Array.getElem?_eq_some_iff.1 HW2.out.2.2).1).trans HW2.out.2.2))
  have HO := Lib.hid (show OwnPk w.heap.size v3 { zeroP with kind := 10, frm := f, dst := t, ce := c1.1, cr := (c1.2 : Int) } from ⟨.nil _ _, .nil _ _, ⟨rfl, .inl ⟨rfl, rfl⟩⟩, fun x hx => by cases hx⟩)
  clear hb c0 HC
  by_cases h4 : 0 < l1.length
  · have HE := Lib.hid (fldErr (s := s) (show r = .error 4 from by rw [HR2.out]; exact if_pos h4) HW.out.1 HW.out.2)
    have d1 : decide (0 < l1.length) = true := by rw [decide_eq_true_eq]; exact h4
    have d2 : decide ((0 : Int) < (l1.length : Int)) = true := by rw [decide_eq_true_eq]; omega
    clear h4
    go_wp2_with (go_at_call 50; refine (bad_so 4 _).mono ?_; rintro e w' ⟨rfl, rfl⟩)
    exact bodyPost_pan rfl HE.out
  · have HE := Lib.hid (show FldEnd R Pb s w r (.returned (.tuple #[])) v3 from by
      rw [show r = .ok ({ zeroP with kind := 10, frm := f, dst := t, ce := c1.1, cr := (c1.2 : Int) }, l1) from by rw [HR2.out]; exact if_neg h4]
      exact ⟨rfl, HW.out.1, _, HW.out.2, rfl, HO.out⟩)
    have d1 : decide (0 < l1.length) = false := by rw [decide_eq_false_iff_not]; exact h4
    have d2 : decide ((0 : Int) < (l1.length : Int)) = false := by rw [decide_eq_false_iff_not]; omega
    clear h4
    go_wp2_with (go_at_call 50; refine (bad_no 4 _).mono ?_; rintro e w' ⟨rfl, rfl⟩)
    go_end0
    exact HE.out
set_option maxRecDepth 100000 in
set_option maxHeartbeats 16000000 in
theorem fld11_rd {w : World} {R Pb : Nat} {s : ByteArray} {l0 : List UInt8} (h : RdL w R s l0) (f t : Int) (hp : w.heap[Pb]? = some (.cells (pktA { zeroP with kind := 11, frm := f, dst := t }) 35 (0, 0))) (hne : Pb ≠ R) :
    Calls Try.prog 23 #[.agg #[.pointer (some ⟨R, 0, none⟩)], .pointer (some ⟨Pb, 0, none⟩)] w fun e w' => FldEnd R Pb s w (rdBody 11 f t l0) e w' := by
  obtain ⟨N, hN⟩ : ∃ N, N = w.heap.size := ⟨_, rfl⟩
  obtain ⟨v0, hW⟩ : ∃ v0, v0 = w.alloc (.cells #[.pointer (some ⟨R, 0, none⟩)] 63) := ⟨_, rfl⟩
  have hbA := ba (br w) (.cells #[.pointer (some ⟨R, 0, none⟩)] 63)
  have n1 := heap_alloc_new w (.cells #[.pointer (some ⟨R, 0, none⟩)] 63)
  rw [← hW] at n1 hbA
  rw [← hN] at n1
  have hPl := (Array.getElem?_eq_some_iff.1 hp).1
  have HB := Lib.hid (show N ≠ R ∧ N ≠ Pb ∧ R < w.heap.size ∧ Pb < w.heap.size ∧ N = w.heap.size ∧ Pb ≠ R from ⟨by have := h.lt; omega, by omega, h.lt, hPl, hN, hne⟩)
  have c0 : v0.cell? ⟨N, 0, none⟩ = some (.pointer (some ⟨R, 0, none⟩)) := cell_of_row _ _ 0 _ _ _ n1
  have HS0 := Lib.hid (h.below hbA)
  have HW0 := Lib.hid (And.intro ((KP.refl R Pb w).kr (KR.below hbA)) (And.intro n1 ((hbA.block _ hPl).trans hp)))
  obtain ⟨r, hr⟩ : ∃ r, r = rdBody 11 f t l0 := ⟨_, rfl⟩
  rw [← hr]
  have HR0 := Lib.hid hr
  clear n1 hbA h hr hp hne hPl
  go_enter Try.func23, Try.ntmps23
  go_upto_region 1 with (fail)
  rw [← hW, ← hN]
  clear hW hN
  have c0 : v0.cell? ⟨N, 0, none⟩ = some (.pointer (some ⟨R, 0, none⟩)) := cell_of_row _ _ 0 _ _ _ HW0.out.2.1
  have HC := Lib.hid (conf_rd HS0.out)
  go_wp2_with fail
  refine HC.out.mono ?_
  intro e v1 h1
  rcases hn : rdConf l0 with c | ⟨c1, l1⟩
  · rw [hn] at h1
    obtain ⟨rfl, hk⟩ := h1
    have HE := Lib.hid (fldErr (s := s) (show r = .error c from by rw [HR0.out]; exact andR_err hn _) (HW0.out.1.kr hk) (keep2 HW0.out.2.2 hk HB.out.2.2.2.2.2))
    clear hn hk HC
    (try simp only [Exit.inBlock, Exit.then])
    exact bodyPost_pan (P := Try.prog) (fn := Try.f23) rfl HE.out
  rw [hn] at h1
  obtain ⟨rfl, h1, hk⟩ := h1
  have HR1 := Lib.hid (show r = finR { zeroP with kind := 11, frm := f, dst := t, ce := c1.1, cr := (c1.2 : Int) } l1 from by rw [HR0.out]; exact andR_ok hn _)
  have HW1 := Lib.hid (And.intro (HW0.out.1.kr hk) (And.intro (keep2 HW0.out.2.1 hk HB.out.1) (keep2 HW0.out.2.2 hk HB.out.2.2.2.2.2)))
  have HS1 := Lib.hid h1
  clear hk h1 hn HC
  clear c0
  have c0 : v1.cell? ⟨N, 0, none⟩ = some (.pointer (some ⟨R, 0, none⟩)) := cell_of_row _ _ 0 _ _ _ HW1.out.2.1
  have d3 : v1.cell? ⟨Pb, 3, none⟩ = some (.int .u64 0) := cell_of_row _ _ 3 _ _ _ HW1.out.2.2
  have f3 : v1.frozen? ⟨Pb, 3, none⟩ = false := frozen_of_row _ _ _ _ _ HW1.out.2.2
  have d4 : v1.cell? ⟨Pb, 4, none⟩ = some (.int .i64 0) := cell_of_row _ _ 4 _ _ _ HW1.out.2.2
  have f4 : v1.frozen? ⟨Pb, 4, none⟩ = false := frozen_of_row _ _ _ _ _ HW1.out.2.2
  go_upto_region 2 with (fail)
  obtain ⟨v2, hV⟩ : ∃ v2, v2 = ((v1.setCell ⟨Pb, 3, none⟩ (.int .u64 (c1.1 : Int))).setCell ⟨Pb, 4, none⟩ (.int .i64 (c1.2 : Int))) := ⟨_, rfl⟩
  have HW2 := Lib.hid (show KP R Pb w v2 ∧ v2.heap[N]? = some (.cells #[.pointer (some ⟨R, 0, none⟩)] 63 (0, 0)) ∧ v2.heap[Pb]? = some (.cells (pktA { zeroP with kind := 11, frm := f, dst := t, ce := c1.1, cr := (c1.2 : Int) }) 35 (0, 0)) from by
    rw [hV]
    refine ⟨((((HW1.out.1).st 3 (.int .u64 (c1.1 : Int)))).st 4 (.int .i64 (c1.2 : Int))), ?_, (setCell_block ((setCell_block (HW1.out.2.2) 3 (.int .u64 (c1.1 : Int)))) 4 (.int .i64 (c1.2 : Int)))⟩
    exact ((keptS _ ⟨Pb, 4, none⟩ (.int .i64 (c1.2 : Int))).keep (((keptS _ ⟨Pb, 3, none⟩ (.int .u64 (c1.1 : Int))).keep (HW1.out.2.1) HB.out.2.1)) HB.out.2.1))
  have HS2 := Lib.hid (show RdL v2 R s l1 from by rw [hV]; exact (RdL.kept ((RdL.kept (HS1.out) (keptS _ ⟨Pb, 3, none⟩ (.int .u64 (c1.1 : Int))) (fun e => HB.out.2.2.2.2.2 e.symm))) (keptS _ ⟨Pb, 4, none⟩ (.int .i64 (c1.2 : Int))) (fun e => HB.out.2.2.2.2.2 e.symm)))
  have HR2 := HR1
  rw [← hV]
  clear hV c0 d3 f3 d4 f4
  have q0 : v2.cell? ⟨Pb, 0, none⟩ = some (.int .i64 11) := cell_of_row _ _ 0 _ _ _ HW2.out.2.2
  go_upto_region 30 with (fail)
  clear q0
  have c0 : v2.cell? ⟨N, 0, none⟩ = some (.pointer (some ⟨R, 0, none⟩)) := cell_of_row _ _ 0 _ _ _ HW2.out.2.1
  have HC := Lib.hid (left_rd HS2.out)
  go_upto_region 30 with (fail)
  go_wp2_with fail
  refine HC.out.mono ?_
  rintro e v3 ⟨rfl, hb⟩
  have HW := Lib.hid (And.intro (HW2.out.1.kr (KR.below hb)) ((hb.block _ (Array.getElem?_eq_some_iff.1 HW2.out.2.2).1).trans HW2.out.2.2))
  have HO := Lib.hid (show OwnPk w.heap.size v3 { zeroP with kind := 11, frm := f, dst := t, ce := c1.1, cr := (c1.2 : Int) } from ⟨.nil _ _, .nil _ _, ⟨rfl, .inl ⟨rfl, rfl⟩⟩, fun x hx => by cases hx⟩)
  clear hb c0 HC
  by_cases h4 : 0 < l1.length
  · have HE := Lib.hid (fldErr (s := s) (show r = .error 4 from by rw [HR2.out]; exact if_pos h4) HW.out.1 HW.out.2)
    have d1 : decide (0 < l1.length) = true := by rw [decide_eq_true_eq]; exact h4
    have d2 : decide ((0 : Int) < (l1.length : Int)) = true := by rw [decide_eq_true_eq]; omega
    clear h4
    go_wp2_with (go_at_call 50; refine (bad_so 4 _).mono ?_; rintro e w' ⟨rfl, rfl⟩)
    exact bodyPost_pan rfl HE.out
  · have HE := Lib.hid (show FldEnd R Pb s w r (.returned (.tuple #[])) v3 from by
      rw [show r = .ok ({ zeroP with kind := 11, frm := f, dst := t, ce := c1.1, cr := (c1.2 : Int) }, l1) from by rw [HR2.out]; exact if_neg h4]
      exact ⟨rfl, HW.out.1, _, HW.out.2, rfl, HO.out⟩)
    have d1 : decide (0 < l1.length) = false := by rw [decide_eq_false_iff_not]; exact h4
    have d2 : decide ((0 : Int) < (l1.length : Int)) = false := by rw [decide_eq_false_iff_not]; omega
    clear h4
    go_wp2_with (go_at_call 50; refine (bad_no 4 _).mono ?_; rintro e w' ⟨rfl, rfl⟩)
    go_end0
    exact HE.out
end Go.Proofs.Ytgpojbmloielmaa
