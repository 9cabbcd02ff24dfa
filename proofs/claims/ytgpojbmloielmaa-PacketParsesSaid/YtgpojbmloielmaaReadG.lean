/-
  What a body's reader reads of the fields of a kind that holds exchanges.
  Conditions: those that each theorem names.
-/
import Derived.Test.YtgpojbmloielmaaReadF
import Derived.Test.YtgpojbmloielmaaBuild
import Derived.Lib.OwnKind
namespace Go.Proofs.Ytgpojbmloielmaa
set_option linter.unusedVariables false
set_option linter.unusedSimpArgs false
open Go.RowKit
theorem andR_inv {α β : Type} {r : Except Int (α × List UInt8)} {f : α → List UInt8 → Except Int (β × List UInt8)} {b : β} {l' : List UInt8} (h : andR r f = .ok (b, l')) : ∃ a l1, r = .ok (a, l1) ∧ f a l1 = .ok (b, l') := by
  cases r with
  | error c => cases h
  | ok x => exact ⟨x.1, x.2, rfl, h⟩
theorem rdEx_core {l : List UInt8} {x : Exch} {l' : List UInt8} (h : rdEx l = .ok (x, l')) : coreX x = x := by
  obtain ⟨a1, l1, _, h⟩ := andR_inv h
  obtain ⟨a2, l2, _, h⟩ := andR_inv h
  obtain ⟨a3, l3, _, h⟩ := andR_inv h
  obtain ⟨a4, l4, _, h⟩ := andR_inv h
  injection h with h
  injection h with h1 h2
  subst h1
  rfl
theorem rdExs_snoc : ∀ (k : Nat) (l : List UInt8), rdExs (k + 1) l = andR (rdExs k l) fun xs l => andR (rdEx l) fun x l => .ok (xs ++ [x], l)
  | 0, l => by
    show andR (rdEx l) (fun x l => andR (.ok ([], l)) fun xs l => .ok (x :: xs, l)) = andR (rdEx l) fun x l => .ok ([] ++ [x], l)
    cases rdEx l <;> rfl
  | k + 1, l => by
    show andR (rdEx l) (fun x l => andR (rdExs (k + 1) l) fun xs l => .ok (x :: xs, l)) = andR (andR (rdEx l) (fun x l => andR (rdExs k l) fun xs l => .ok (x :: xs, l))) fun xs l => andR (rdEx l) fun x l => .ok (xs ++ [x], l)
    cases rdEx l with
    | error c => rfl
    | ok y =>
      obtain ⟨v, l'⟩ := y
      show andR (rdExs (k + 1) l') (fun xs l => .ok (v :: xs, l)) = andR (andR (rdExs k l') fun xs l => .ok (v :: xs, l)) fun xs l => andR (rdEx l) fun x l => .ok (xs ++ [x], l)
      rw [rdExs_snoc k l']
      cases rdExs k l' with
      | error c => rfl
      | ok z =>
        obtain ⟨vs, l2⟩ := z
        show andR (andR (rdEx l2) fun x l => .ok (vs ++ [x], l)) (fun xs l => .ok (v :: xs, l)) = andR (rdEx l2) fun x l => .ok (v :: vs ++ [x], l)
        cases rdEx l2 <;> rfl
theorem rdExs_bad : ∀ (m k : Nat) (l : List UInt8) (c : Int), rdExs k l = .error c → rdExs (k + m) l = .error c
  | 0, k, l, c, h => h
  | m + 1, k, l, c, h => by
    rw [← Nat.add_assoc, rdExs_snoc, andR_err (rdExs_bad m k l c h)]
theorem ownX.kr {B R : Nat} {w w' : World} {v : Value} {n : Nat} {xs : List Value} (h : w.ownsRow B 51 6 v n xs) (hk : KR R w w') (hR : R < B) : w'.ownsRow B 51 6 v n xs := own_keptS h hk (fun b hb e => by have := (h.lt b hb).1; omega)
theorem ownX.st {B Pb : Nat} {w : World} {v : Value} {n : Nat} {xs : List Value} (h : w.ownsRow B 51 6 v n xs) (hP : Pb < B) (j : Nat) (x : Value) : (w.setCell ⟨Pb, j, none⟩ x).ownsRow B 51 6 v n xs := own_keptS h (keptS w ⟨Pb, j, none⟩ x) (fun b hb e => by have := (h.lt b hb).1; simp at e; omega)
theorem new_ex (w : World) (x : Exch) : Reads (w.alloc (.cells (exA x) 51)) (w.heap.size + 1) 6 (some ⟨w.heap.size, 0, none⟩) 1 (exA x).toList :=
  ⟨rfl, fun _ => ⟨_, rfl, by show w.heap.size < _; omega, fun j u hu => by
    have ha : (⟨w.heap.size, 0, none⟩ : Addr).add j = ⟨w.heap.size, j, none⟩ := by rw [add_at, Nat.zero_add]
    rw [ha, cell_of_row _ _ j (exA x) 51 (0, 0) (heap_alloc_new w _)]
    simpa using hu⟩⟩
theorem coreP_xs (q : Pkt) (X : List Exch) (xa : Option Addr) (xc : Nat) : coreP { q with xs := X, xa := xa, xc := xc } = coreP { q with xs := X.map coreX } := by
  unfold coreP
  have : ∀ x : Exch, coreX (coreX x) = coreX x := fun _ => rfl
  simp [List.map_map, Function.comp_def, this]
set_option maxRecDepth 100000 in
set_option maxHeartbeats 16000000 in
theorem fld6_rd {w : World} {R Pb : Nat} {s : ByteArray} {l0 : List UInt8} (h : RdL w R s l0) (f t : Int) (hp : w.heap[Pb]? = some (.cells (pktA { zeroP with kind := 6, frm := f, dst := t }) 35 (0, 0))) (hne : Pb ≠ R) :
    Calls Try.prog 23 #[.agg #[.pointer (some ⟨R, 0, none⟩)], .pointer (some ⟨Pb, 0, none⟩)] w fun e w' => FldEnd R Pb s w (rdBody 6 f t l0) e w' := by
  obtain ⟨N, hN⟩ : ∃ N, N = w.heap.size := ⟨_, rfl⟩
  obtain ⟨v0, hW⟩ : ∃ v0, v0 = w.alloc (.cells #[.pointer (some ⟨R, 0, none⟩)] 63) := ⟨_, rfl⟩
  have hbA := ba (br w) (.cells #[.pointer (some ⟨R, 0, none⟩)] 63)
  have n1 := heap_alloc_new w (.cells #[.pointer (some ⟨R, 0, none⟩)] 63)
  rw [← hW] at n1 hbA
  rw [← hN] at n1
  have hPl := (Array.getElem?_eq_some_iff.1 hp).1
  have HB := Lib.hid (show N ≠ R ∧ N ≠ Pb ∧ R < w.heap.size ∧ Pb < w.heap.size ∧ N = w.heap.size ∧ Pb ≠ R from ⟨by have := h.lt; omega, by omega, h.lt, hPl, hN, hne⟩)
  have c0 : v0.cell? ⟨N, 0, none⟩ = some (.pointer (some ⟨R, 0, none⟩)) := cell_of_row _ _ 0 _ _ _ n1
  have HS0 := Lib.hid (h.below hbA)
  have HW0 := Lib.hid (And.intro ((KP.refl R Pb w).kr (KR.below hbA)) (And.intro n1 ((hbA.block _ hPl).trans hp)))
  obtain ⟨r, hr⟩ : ∃ r, r = rdBody 6 f t l0 := ⟨_, rfl⟩
  rw [← hr]
  have HR0 := Lib.hid hr
  clear n1 hbA h hr hp hne hPl
  go_enter Try.func23, Try.ntmps23
  go_upto_region 1 with (fail)
  rw [← hW, ← hN]
  clear hW hN
  have c0 : v0.cell? ⟨N, 0, none⟩ = some (.pointer (some ⟨R, 0, none⟩)) := cell_of_row _ _ 0 _ _ _ HW0.out.2.1
  have HC := Lib.hid (conf_rd HS0.out)
  go_wp2_with fail
  refine HC.out.mono ?_
  intro e v1 h1
  rcases hn : rdConf l0 with c | ⟨c1, l1⟩
  · rw [hn] at h1
    obtain ⟨rfl, hk⟩ := h1
    have HE := Lib.hid (fldErr (s := s) (show r = .error c from by rw [HR0.out]; exact andR_err hn _) (HW0.out.1.kr hk) (keep2 HW0.out.2.2 hk HB.out.2.2.2.2.2))
    clear hn hk HC
    (try simp only [Exit.inBlock, Exit.then])
    exact bodyPost_pan (P := Try.prog) (fn := Try.f23) rfl HE.out
  rw [hn] at h1
  obtain ⟨rfl, h1, hk⟩ := h1
  have HR1 := Lib.hid (show r = rdK6 { zeroP with kind := 6, frm := f, dst := t, ce := c1.1, cr := (c1.2 : Int) } l1 from by rw [HR0.out]; exact andR_ok hn _)
  have HW1 := Lib.hid (And.intro (HW0.out.1.kr hk) (And.intro (keep2 HW0.out.2.1 hk HB.out.1) (keep2 HW0.out.2.2 hk HB.out.2.2.2.2.2)))
  have HS1 := Lib.hid h1
  clear hk h1 hn HC
  clear c0
  have c0 : v1.cell? ⟨N, 0, none⟩ = some (.pointer (some ⟨R, 0, none⟩)) := cell_of_row _ _ 0 _ _ _ HW1.out.2.1
  have d3 : v1.cell? ⟨Pb, 3, none⟩ = some (.int .u64 0) := cell_of_row _ _ 3 _ _ _ HW1.out.2.2
  have f3 : v1.frozen? ⟨Pb, 3, none⟩ = false := frozen_of_row _ _ _ _ _ HW1.out.2.2
  have d4 : v1.cell? ⟨Pb, 4, none⟩ = some (.int .i64 0) := cell_of_row _ _ 4 _ _ _ HW1.out.2.2
  have f4 : v1.frozen? ⟨Pb, 4, none⟩ = false := frozen_of_row _ _ _ _ _ HW1.out.2.2
  go_upto_region 2 with (fail)
  obtain ⟨v2, hV⟩ : ∃ v2, v2 = ((v1.setCell ⟨Pb, 3, none⟩ (.int .u64 (c1.1 : Int))).setCell ⟨Pb, 4, none⟩ (.int .i64 (c1.2 : Int))) := ⟨_, rfl⟩
  have HW2 := Lib.hid (show KP R Pb w v2 ∧ v2.heap[N]? = some (.cells #[.pointer (some ⟨R, 0, none⟩)] 63 (0, 0)) ∧ v2.heap[Pb]? = some (.cells (pktA { zeroP with kind := 6, frm := f, dst := t, ce := c1.1, cr := (c1.2 : Int) }) 35 (0, 0)) from by
    rw [hV]
    refine ⟨((((HW1.out.1).st 3 (.int .u64 (c1.1 : Int)))).st 4 (.int .i64 (c1.2 : Int))), ?_, (setCell_block ((setCell_block (HW1.out.2.2) 3 (.int .u64 (c1.1 : Int)))) 4 (.int .i64 (c1.2 : Int)))⟩
    exact ((keptS _ ⟨Pb, 4, none⟩ (.int .i64 (c1.2 : Int))).keep (((keptS _ ⟨Pb, 3, none⟩ (.int .u64 (c1.1 : Int))).keep (HW1.out.2.1) HB.out.2.1)) HB.out.2.1))
  have HS2 := Lib.hid (show RdL v2 R s l1 from by rw [hV]; exact (RdL.kept ((RdL.kept (HS1.out) (keptS _ ⟨Pb, 3, none⟩ (.int .u64 (c1.1 : Int))) (fun e => HB.out.2.2.2.2.2 e.symm))) (keptS _ ⟨Pb, 4, none⟩ (.int .i64 (c1.2 : Int))) (fun e => HB.out.2.2.2.2.2 e.symm)))
  have HR2 := HR1
  rw [← hV]
  clear hV c0 d3 f3 d4 f4
  have q0 : v2.cell? ⟨Pb, 0, none⟩ = some (.int .i64 6) := cell_of_row _ _ 0 _ _ _ HW2.out.2.2
  go_upto_region 18 with (fail)
  clear q0
  have c0 : v2.cell? ⟨N, 0, none⟩ = some (.pointer (some ⟨R, 0, none⟩)) := cell_of_row _ _ 0 _ _ _ HW2.out.2.1
  have HC := Lib.hid (ex_rd HS2.out)
  go_wp2_with fail
  refine HC.out.mono ?_
  intro e v3 h1
  rcases hn : rdEx l1 with c | ⟨x, l3⟩
  · rw [hn] at h1
    obtain ⟨rfl, hk⟩ := h1
    have HE := Lib.hid (fldErr (s := s) (show r = .error c from by rw [HR2.out]; exact andR_err hn _) (HW2.out.1.kr hk) (keep2 HW2.out.2.2 hk HB.out.2.2.2.2.2))
    clear hn hk HC
    exact bodyPost_pan (P := Try.prog) (fn := Try.f23) rfl HE.out
  rw [hn] at h1
  obtain ⟨⟨ca, cc, rfl, ho⟩, h1, hk⟩ := h1
  have HX := Lib.hid (rdEx_core hn)
  have HR3 := Lib.hid (show r = finR { ({ zeroP with kind := 6, frm := f, dst := t, ce := c1.1, cr := (c1.2 : Int) } : Pkt) with xs := [x] } l3 from by rw [HR2.out]; exact andR_ok hn _)
  have HW3 := Lib.hid (And.intro (HW2.out.1.kr hk) (And.intro (keep2 HW2.out.2.1 hk HB.out.1) (keep2 HW2.out.2.2 hk HB.out.2.2.2.2.2)))
  have HS3 := Lib.hid h1
  have HO1 := Lib.hid (show OwnN w.heap.size v3 ca x.cs cc from ownMore ho HW2.out.1.size)
  clear hk h1 hn HC ho c0
  rw [show exA { x with ca := ca, cc := cc } = #[.int .i64 x.who, .int .u64 (x.oe : Int), .int .i64 x.orp, .slice ca x.cs.length cc, .int .u64 (x.ls : Int), .int .i64 x.lf] from rfl]
  obtain ⟨v4, hV⟩ : ∃ v4, v4 = v3.alloc (.cells #[.int .i64 x.who, .int .u64 (x.oe : Int), .int .i64 x.orp, .slice ca x.cs.length cc, .int .u64 (x.ls : Int), .int .i64 x.lf] 51) := ⟨_, rfl⟩
  have hb := ba (br v3) (.cells #[.int .i64 x.who, .int .u64 (x.oe : Int), .int .i64 x.orp, .slice ca x.cs.length cc, .int .u64 (x.ls : Int), .int .i64 x.lf] 51)
  have hox := ownOne v3 w.heap.size 51 (exA { x with ca := ca, cc := cc }) 6 rfl HW3.out.1.size
  rw [show exA { x with ca := ca, cc := cc } = #[.int .i64 x.who, .int .u64 (x.oe : Int), .int .i64 x.orp, .slice ca x.cs.length cc, .int .u64 (x.ls : Int), .int .i64 x.lf] from rfl, ← hV] at hox
  rw [← hV] at hb
  obtain ⟨G, hG⟩ : ∃ G, G = v3.heap.size := ⟨_, rfl⟩
  rw [← hG] at hox
  have HOX := Lib.hid hox
  have HW4 := Lib.hid (And.intro (HW3.out.1.kr (KR.below (R := R) hb)) (And.intro ((hb.block _ (Array.getElem?_eq_some_iff.1 HW3.out.2.1).1).trans HW3.out.2.1) ((hb.block _ (Array.getElem?_eq_some_iff.1 HW3.out.2.2).1).trans HW3.out.2.2)))
  have HS4 := Lib.hid (HS3.out.below hb)
  have HO2 := Lib.hid (HO1.out.below hb)
  have HR4 := HR3
  clear hb hox
  have d21 : v4.cell? ⟨Pb, 21, none⟩ = some (.slice none 0 0) := cell_of_row _ _ 21 _ _ _ HW4.out.2.2
  have f21 : v4.frozen? ⟨Pb, 21, none⟩ = false := frozen_of_row _ _ _ _ _ HW4.out.2.2
  rw [hV] at d21 f21
  obtain ⟨v5, hU⟩ : ∃ v5, v5 = v4.setCell ⟨Pb, 21, none⟩ (.slice (some ⟨G, 0, none⟩) 1 1) := ⟨_, rfl⟩
  rw [hV, hG] at hU
  go_upto_region 30 with (fail)
  rw [← hU]
  rw [← hG, ← hV] at hU
  clear hV hG d21 f21
  have HW5 := Lib.hid (show KP R Pb w v5 ∧ v5.heap[N]? = some (.cells #[.pointer (some ⟨R, 0, none⟩)] 63 (0, 0)) ∧ v5.heap[Pb]? = some (.cells (pktA { zeroP with kind := 6, frm := f, dst := t, ce := c1.1, cr := (c1.2 : Int), xs := [{ x with ca := ca, cc := cc }], xa := some ⟨G, 0, none⟩, xc := 1 }) 35 (0, 0)) from by
    rw [hU]
    refine ⟨HW4.out.1.st 21 _, ?_, setCell_block HW4.out.2.2 21 _⟩
    exact (keptS _ ⟨Pb, 21, none⟩ _).keep HW4.out.2.1 HB.out.2.1)
  have HS5 := Lib.hid (show RdL v5 R s l3 from by rw [hU]; exact RdL.kept HS4.out (keptS _ ⟨Pb, 21, none⟩ _) (fun e => HB.out.2.2.2.2.2 e.symm))
  have HO3 := Lib.hid (show OwnN w.heap.size v5 ca x.cs cc from by rw [hU]; exact HO2.out.st HB.out.2.2.2.1 21 _)
  have HOX3 := Lib.hid (show v5.ownsRow w.heap.size 51 6 (.slice (some ⟨G, 0, none⟩) 1 1) 1 (exA { x with ca := ca, cc := cc }).toList from by rw [hU]; exact ownX.st HOX.out HB.out.2.2.2.1 21 _)
  have HR5 := HR4
  clear hU
  have c0 : v5.cell? ⟨N, 0, none⟩ = some (.pointer (some ⟨R, 0, none⟩)) := cell_of_row _ _ 0 _ _ _ HW5.out.2.1
  have HC := Lib.hid (left_rd HS5.out)
  go_upto_region 30 with (fail)
  go_wp2_with fail
  refine HC.out.mono ?_
  rintro e v6 ⟨rfl, hb⟩
  have HW := Lib.hid (And.intro (HW5.out.1.kr (KR.below hb)) ((hb.block _ (Array.getElem?_eq_some_iff.1 HW5.out.2.2).1).trans HW5.out.2.2))
  have HO := Lib.hid (show OwnPk w.heap.size v6 { zeroP with kind := 6, frm := f, dst := t, ce := c1.1, cr := (c1.2 : Int), xs := [{ x with ca := ca, cc := cc }], xa := some ⟨G, 0, none⟩, xc := 1 } from ⟨.nil _ _, .nil _ _, (ownX.kr HOX3.out (KR.below (R := R) hb) HB.out.2.2.1), (fun y hy => by rw [List.mem_singleton.1 hy]; exact HO3.out.below hb)⟩)
  clear hb c0 HC
  by_cases h4 : 0 < l3.length
  · have HE := Lib.hid (fldErr (s := s) (show r = .error 4 from by rw [HR5.out]; exact if_pos h4) HW.out.1 HW.out.2)
    have d1 : decide (0 < l3.length) = true := by rw [decide_eq_true_eq]; exact h4
    have d2 : decide ((0 : Int) < (l3.length : Int)) = true := by rw [decide_eq_true_eq]; omega
    clear h4
    go_wp2_with (go_at_call 50; refine (bad_so 4 _).mono ?_; rintro e w' ⟨rfl, rfl⟩)
    exact bodyPost_pan rfl HE.out
  · have HE := Lib.hid (show FldEnd R Pb s w r (.returned (.tuple #[])) v6 from by
      rw [show r = .ok ({ ({ zeroP with kind := 6, frm := f, dst := t, ce := c1.1, cr := (c1.2 : Int) } : Pkt) with xs := [x] }, l3) from by rw [HR5.out]; exact if_neg h4]
      exact ⟨rfl, HW.out.1, _, HW.out.2, by unfold coreP; simp [coreX], HO.out⟩)
    have d1 : decide (0 < l3.length) = false := by rw [decide_eq_false_iff_not]; exact h4
    have d2 : decide ((0 : Int) < (l3.length : Int)) = false := by rw [decide_eq_false_iff_not]; omega
    clear h4
    go_wp2_with (go_at_call 50; refine (bad_no 4 _).mono ?_; rintro e w' ⟨rfl, rfl⟩)
    go_end0
    exact HE.out
set_option maxRecDepth 100000 in
set_option maxHeartbeats 16000000 in
theorem fld7_rd {w : World} {R Pb : Nat} {s : ByteArray} {l0 : List UInt8} (h : RdL w R s l0) (f t : Int) (hp : w.heap[Pb]? = some (.cells (pktA { zeroP with kind := 7, frm := f, dst := t }) 35 (0, 0))) (hne : Pb ≠ R) :
    Calls Try.prog 23 #[.agg #[.pointer (some ⟨R, 0, none⟩)], .pointer (some ⟨Pb, 0, none⟩)] w fun e w' => FldEnd R Pb s w (rdBody 7 f t l0) e w' := by
  obtain ⟨N, hN⟩ : ∃ N, N = w.heap.size := ⟨_, rfl⟩
  obtain ⟨v0, hW⟩ : ∃ v0, v0 = w.alloc (.cells #[.pointer (some ⟨R, 0, none⟩)] 63) := ⟨_, rfl⟩
  have hbA := ba (br w) (.cells #[.pointer (some ⟨R, 0, none⟩)] 63)
  have n1 := heap_alloc_new w (.cells #[.pointer (some ⟨R, 0, none⟩)] 63)
  rw [← hW] at n1 hbA
  rw [← hN] at n1
  have hPl := (Array.getElem?_eq_some_iff.1 hp).1
  have HB := Lib.hid (show N ≠ R ∧ N ≠ Pb ∧ R < w.heap.size ∧ Pb < w.heap.size ∧ N = w.heap.size ∧ Pb ≠ R from ⟨by have := h.lt; omega, by omega, h.lt, hPl, hN, hne⟩)
  have c0 : v0.cell? ⟨N, 0, none⟩ = some (.pointer (some ⟨R, 0, none⟩)) := cell_of_row _ _ 0 _ _ _ n1
  have HS0 := Lib.hid (h.below hbA)
  have HW0 := Lib.hid (And.intro ((KP.refl R Pb w).kr (KR.below hbA)) (And.intro n1 ((hbA.block _ hPl).trans hp)))
  obtain ⟨r, hr⟩ : ∃ r, r = rdBody 7 f t l0 := ⟨_, rfl⟩
  rw [← hr]
  have HR0 := Lib.hid hr
  clear n1 hbA h hr hp hne hPl
  go_enter Try.func23, Try.ntmps23
  go_upto_region 1 with (fail)
  rw [← hW, ← hN]
  clear hW hN
  have c0 : v0.cell? ⟨N, 0, none⟩ = some (.pointer (some ⟨R, 0, none⟩)) := cell_of_row _ _ 0 _ _ _ HW0.out.2.1
  have HC := Lib.hid (conf_rd HS0.out)
  go_wp2_with fail
  refine HC.out.mono ?_
  intro e v1 h1
  rcases hn : rdConf l0 with c | ⟨c1, l1⟩
  · rw [hn] at h1
    obtain ⟨rfl, hk⟩ := h1
    have HE := Lib.hid (fldErr (s := s) (show r = .error c from by rw [HR0.out]; exact andR_err hn _) (HW0.out.1.kr hk) (keep2 HW0.out.2.2 hk HB.out.2.2.2.2.2))
    clear hn hk HC
    (try simp only [Exit.inBlock, Exit.then])
    exact bodyPost_pan (P := Try.prog) (fn := Try.f23) rfl HE.out
  rw [hn] at h1
  obtain ⟨rfl, h1, hk⟩ := h1
  have HR1 := Lib.hid (show r = rdK7 { zeroP with kind := 7, frm := f, dst := t, ce := c1.1, cr := (c1.2 : Int) } l1 from by rw [HR0.out]; exact andR_ok hn _)
  have HW1 := Lib.hid (And.intro (HW0.out.1.kr hk) (And.intro (keep2 HW0.out.2.1 hk HB.out.1) (keep2 HW0.out.2.2 hk HB.out.2.2.2.2.2)))
  have HS1 := Lib.hid h1
  clear hk h1 hn HC
  clear c0
  have c0 : v1.cell? ⟨N, 0, none⟩ = some (.pointer (some ⟨R, 0, none⟩)) := cell_of_row _ _ 0 _ _ _ HW1.out.2.1
  have d3 : v1.cell? ⟨Pb, 3, none⟩ = some (.int .u64 0) := cell_of_row _ _ 3 _ _ _ HW1.out.2.2
  have f3 : v1.frozen? ⟨Pb, 3, none⟩ = false := frozen_of_row _ _ _ _ _ HW1.out.2.2
  have d4 : v1.cell? ⟨Pb, 4, none⟩ = some (.int .i64 0) := cell_of_row _ _ 4 _ _ _ HW1.out.2.2
  have f4 : v1.frozen? ⟨Pb, 4, none⟩ = false := frozen_of_row _ _ _ _ _ HW1.out.2.2
  go_upto_region 2 with (fail)
  obtain ⟨v2, hV⟩ : ∃ v2, v2 = ((v1.setCell ⟨Pb, 3, none⟩ (.int .u64 (c1.1 : Int))).setCell ⟨Pb, 4, none⟩ (.int .i64 (c1.2 : Int))) := ⟨_, rfl⟩
  have HW2 := Lib.hid (show KP R Pb w v2 ∧ v2.heap[N]? = some (.cells #[.pointer (some ⟨R, 0, none⟩)] 63 (0, 0)) ∧ v2.heap[Pb]? = some (.cells (pktA { zeroP with kind := 7, frm := f, dst := t, ce := c1.1, cr := (c1.2 : Int) }) 35 (0, 0)) from by
    rw [hV]
    refine ⟨((((HW1.out.1).st 3 (.int .u64 (c1.1 : Int)))).st 4 (.int .i64 (c1.2 : Int))), ?_, (setCell_block ((setCell_block (HW1.out.2.2) 3 (.int .u64 (c1.1 : Int)))) 4 (.int .i64 (c1.2 : Int)))⟩
    exact ((keptS _ ⟨Pb, 4, none⟩ (.int .i64 (c1.2 : Int))).keep (((keptS _ ⟨Pb, 3, none⟩ (.int .u64 (c1.1 : Int))).keep (HW1.out.2.1) HB.out.2.1)) HB.out.2.1))
  have HS2 := Lib.hid (show RdL v2 R s l1 from by rw [hV]; exact (RdL.kept ((RdL.kept (HS1.out) (keptS _ ⟨Pb, 3, none⟩ (.int .u64 (c1.1 : Int))) (fun e => HB.out.2.2.2.2.2 e.symm))) (keptS _ ⟨Pb, 4, none⟩ (.int .i64 (c1.2 : Int))) (fun e => HB.out.2.2.2.2.2 e.symm)))
  have HR2 := HR1
  rw [← hV]
  clear hV c0 d3 f3 d4 f4
  have q0 : v2.cell? ⟨Pb, 0, none⟩ = some (.int .i64 7) := cell_of_row _ _ 0 _ _ _ HW2.out.2.2
  go_upto_region 20 with (fail)
  clear q0
  have c0 : v2.cell? ⟨N, 0, none⟩ = some (.pointer (some ⟨R, 0, none⟩)) := cell_of_row _ _ 0 _ _ _ HW2.out.2.1
  have HC := Lib.hid (num_rd HS2.out 8 (by omega) (by omega))
  go_wp2_with fail
  refine HC.out.mono ?_
  intro e v3 h1
  rcases hn : rdN 8 l1 with c | ⟨a, l3⟩
  · rw [hn] at h1
    obtain ⟨rfl, hk⟩ := h1
    have HE := Lib.hid (fldErr (s := s) (show r = .error c from by rw [HR2.out]; unfold rdK7; exact andR_err hn _) (HW2.out.1.kr hk) (keep2 HW2.out.2.2 hk HB.out.2.2.2.2.2))
    clear hn hk HC
    (try simp only [Exit.inBlock, Exit.then])
    exact bodyPost_pan (P := Try.prog) (fn := Try.f23) rfl HE.out
  rw [hn] at h1
  obtain ⟨rfl, h1, hk⟩ := h1
  have HR3 := Lib.hid (show r = andR (rdN 1 l3) fun n l => if 64 < n then .error 3 else andR (rdExs n l) fun xs l => finR { ({ zeroP with kind := 7, frm := f, dst := t, ce := c1.1, cr := (c1.2 : Int) } : Pkt) with mem := a, xs := xs } l from by rw [HR2.out]; unfold rdK7; exact andR_ok hn _)
  have HW3 := Lib.hid (And.intro (HW2.out.1.kr hk) (And.intro (keep2 HW2.out.2.1 hk HB.out.1) (keep2 HW2.out.2.2 hk HB.out.2.2.2.2.2)))
  have HS3 := Lib.hid h1
  clear hk h1 hn HC
  clear c0
  have c0 : v3.cell? ⟨N, 0, none⟩ = some (.pointer (some ⟨R, 0, none⟩)) := cell_of_row _ _ 0 _ _ _ HW3.out.2.1
  have d17 : v3.cell? ⟨Pb, 17, none⟩ = some (.int .u64 0) := cell_of_row _ _ 17 _ _ _ HW3.out.2.2
  have f17 : v3.frozen? ⟨Pb, 17, none⟩ = false := frozen_of_row _ _ _ _ _ HW3.out.2.2
  go_upto_region 21 with (fail)
  obtain ⟨v4, hV⟩ : ∃ v4, v4 = (v3.setCell ⟨Pb, 17, none⟩ (.int .u64 (a : Int))) := ⟨_, rfl⟩
  have HW4 := Lib.hid (show KP R Pb w v4 ∧ v4.heap[N]? = some (.cells #[.pointer (some ⟨R, 0, none⟩)] 63 (0, 0)) ∧ v4.heap[Pb]? = some (.cells (pktA { zeroP with kind := 7, frm := f, dst := t, ce := c1.1, cr := (c1.2 : Int), mem := a }) 35 (0, 0)) from by
    rw [hV]
    refine ⟨((HW3.out.1).st 17 (.int .u64 (a : Int))), ?_, (setCell_block (HW3.out.2.2) 17 (.int .u64 (a : Int)))⟩
    exact ((keptS _ ⟨Pb, 17, none⟩ (.int .u64 (a : Int))).keep (HW3.out.2.1) HB.out.2.1))
  have HS4 := Lib.hid (show RdL v4 R s l3 from by rw [hV]; exact (RdL.kept (HS3.out) (keptS _ ⟨Pb, 17, none⟩ (.int .u64 (a : Int))) (fun e => HB.out.2.2.2.2.2 e.symm)))
  have HR4 := HR3
  rw [← hV]
  clear hV c0 d17 f17
  have c0 : v4.cell? ⟨N, 0, none⟩ = some (.pointer (some ⟨R, 0, none⟩)) := cell_of_row _ _ 0 _ _ _ HW4.out.2.1
  have HC := Lib.hid (num_rd HS4.out 1 (by omega) (by omega))
  go_wp2_with fail
  refine HC.out.mono ?_
  intro e v5 h1
  rcases hn : rdN 1 l3 with c | ⟨n, l5⟩
  · rw [hn] at h1
    obtain ⟨rfl, hk⟩ := h1
    have HE := Lib.hid (fldErr (s := s) (show r = .error c from by rw [HR4.out]; exact andR_err hn _) (HW4.out.1.kr hk) (keep2 HW4.out.2.2 hk HB.out.2.2.2.2.2))
    clear hn hk HC
    (try simp only [Exit.inBlock, Exit.then])
    exact bodyPost_pan (P := Try.prog) (fn := Try.f23) rfl HE.out
  rw [hn] at h1
  obtain ⟨rfl, h1, hk⟩ := h1
  have HR5 := Lib.hid (show r = if 64 < n then .error 3 else andR (rdExs n l5) fun xs l => finR { ({ zeroP with kind := 7, frm := f, dst := t, ce := c1.1, cr := (c1.2 : Int) } : Pkt) with mem := a, xs := xs } l from by rw [HR4.out]; exact andR_ok hn _)
  have HW5 := Lib.hid (And.intro (HW4.out.1.kr hk) (And.intro (keep2 HW4.out.2.1 hk HB.out.1) (keep2 HW4.out.2.2 hk HB.out.2.2.2.2.2)))
  have HS5 := Lib.hid h1
  have hv : n < 256 := by simpa using (rdN_lt (by omega) hn).1
  clear hk h1 hn HC
  clear c0
  have hw : IntKind.i64.wrap (n : Int) = (n : Int) := IntWalk.i64_in _ (by omega)
  by_cases h64 : 64 < n
  · have HE := Lib.hid (fldErr (s := s) (show r = .error 3 from by rw [HR5.out]; exact if_pos h64) HW5.out.1 HW5.out.2.2)
    have d1 : decide (64 < n) = true := by rw [decide_eq_true_eq]; exact h64
    have d2 : decide ((64 : Int) < (n : Int)) = true := by rw [decide_eq_true_eq]; omega
    clear h64
    go_wp2_with (go_at_call 50; refine (bad_so 3 _).mono ?_; rintro e w' ⟨rfl, rfl⟩)
    exact bodyPost_pan (P := Try.prog) (fn := Try.f23) rfl HE.out
  have HRN := Lib.hid (show r = andR (rdExs n l5) fun xs l => finR { ({ zeroP with kind := 7, frm := f, dst := t, ce := c1.1, cr := (c1.2 : Int) } : Pkt) with mem := a, xs := xs } l from by rw [HR5.out]; exact if_neg h64)
  have d1 : decide (64 < n) = false := by rw [decide_eq_false_iff_not]; exact h64
  have d2 : decide ((64 : Int) < (n : Int)) = false := by rw [decide_eq_false_iff_not]; omega
  have hn64 : n ≤ 64 := by omega
  clear h64 hv
  obtain ⟨i2, hj, hy0, hy1, hy2⟩ := info_parts info51
  have c0 : v5.cell? ⟨N, 0, none⟩ = some (.pointer (some ⟨R, 0, none⟩)) := cell_of_row _ _ 0 _ _ _ HW5.out.2.1
  go_wp2_with (go_at_call 50; refine (bad_no 3 _).mono ?_; rintro e w' ⟨rfl, rfl⟩)
  clear d1 d2 hw c0
  go_loopw [117] (fun i wr => ∃ (k : Nat) (X : List Exch) (lk : List UInt8) (ad : Option Addr) (cap : Nat), k ≤ n ∧ i = .int .i64 (k : Int) ∧ Hid (X.length = k ∧ rdExs k l5 = .ok (X.map coreX, lk)) ∧ RdL wr R s lk ∧ KP R Pb w wr ∧ wr.heap[N]? = some (.cells #[.pointer (some ⟨R, 0, none⟩)] 63 (0, 0)) ∧ wr.heap[Pb]? = some (.cells (pktA { zeroP with kind := 7, frm := f, dst := t, ce := c1.1, cr := (c1.2 : Int), mem := a, xs := X, xa := ad, xc := cap }) 35 (0, 0)) ∧ wr.ownsRow w.heap.size 51 6 (.slice ad X.length cap) X.length (exsM X) ∧ Hid (∀ x ∈ X, OwnN w.heap.size wr x.ca x.cs x.cc)) (fun i _ => n - (intOf i).toNat)
  case atStart => exact ⟨0, [], l5, none, 0, by omega, rfl, ⟨rfl, rfl⟩, HS5.out, HW5.out.1, HW5.out.2.1, HW5.out.2.2, ⟨rfl, .inl ⟨rfl, rfl⟩⟩, fun x hx => by cases hx⟩
  case round =>
    obtain ⟨k, X, lk, ad, cap, hk, rfl, HX, hl, hkp, hb, hp, ho, HO⟩ := hrel
    have HK := Lib.hid (And.intro hl (And.intro hkp (And.intro hb (And.intro hp ho))))
    by_cases hlt : k < n
    · have hbool : decide ((k : Int) < (n : Int)) = true := by rw [decide_eq_true_eq]; omega
      have hbool' : decide (k < n) = true := by rw [decide_eq_true_eq]; exact hlt
      have hki : (k : Int) < (n : Int) := by omega
      have hX64 : X.length ≤ 64 := by rw [HX.out.1]; omega
      have hS0 : ∀ w' : World, w'.heap[N]? = some (.cells #[.pointer (some ⟨R, 0, none⟩)] 63 (0, 0)) → w'.heap[Pb]? = some (.cells (pktA { zeroP with kind := 7, frm := f, dst := t, ce := c1.1, cr := (c1.2 : Int), mem := a, xs := X, xa := ad, xc := cap }) 35 (0, 0)) → w'.cell? ⟨N, 0, none⟩ = some (.pointer (some ⟨R, 0, none⟩)) ∧ w'.cell? ⟨Pb, 21, none⟩ = some (.slice ad X.length cap) := fun w' h1 h2 => ⟨cell_of_row _ _ 0 _ _ _ h1, cell_of_row _ _ 21 _ _ _ h2⟩
      have HLT := Lib.hid hlt
      have HS9 := Lib.hid hS0
      have hd := (br wr).drew
      have HC := Lib.hid (ex_rd (hl.below hd))
      have HD := Lib.hid (And.intro (hkp.kr (KR.below (R := R) hd)) (And.intro (show wr.drew.heap[N]? = _ from hb) (And.intro (show wr.drew.heap[Pb]? = _ from hp) (ownX.kr ho (KR.below (R := R) hd) HB.out.2.2.1))))
      have HOD := Lib.hid (show ∀ x ∈ X, OwnN w.heap.size wr.drew x.ca x.cs x.cc from fun x hx => (HO.out x hx).kr (KR.below (R := R) hd) HB.out.2.2.1)
      clear hl hkp hb hp ho hlt hS0 hd
      go_upto_region 25 with (fail)
      refine wp_region_maskP (fun w' => w'.cell? ⟨N, 0, none⟩ = some (.pointer (some ⟨R, 0, none⟩)) ∧ w'.cell? ⟨Pb, 21, none⟩ = some (.slice ad X.length cap)) 11 6 [true, true, true, true, true, true, false, false, false, false, false, false] #[true, true, true, true, true, true, false, false, false, false, false, false] (by kernel_rfl) (by kernel_rfl) (by kernel_rfl) (fun c a d v w h => by cases d <;> exact h) (HS9.out _ HD.out.2.1 HD.out.2.2.1) ?_
      generalize wr.drew = v1 at *
      iterate 6
        refine wpMask_take _ (Or.inl ⟨by rfl, fun w' hS => by (try dsimp only at hS); go_simp; try with_reducible rfl⟩) ?_
        simp only [Act.put, List.setIfInBounds_toArray, List.set_cons_zero, List.set_cons_succ]
      refine wpMask_skip (wpMask_skip (wpMask_skip (wpMask_skip (wpMask_skip (wpMask_skip (wpMask_nil ?_))))))
      refine wpAnyS_ready (rs := [6]) (by kernel_rfl) (by simp) ?_
      refine AllReadyS.cons rfl (fun K hK => ?_) AllReadyS.nil
      go_simp
      refine HC.out.mono ?_
      intro e v2 h1
      rcases hn : rdEx lk with c | ⟨x, m2⟩
      · rw [hn] at h1
        obtain ⟨rfl, hk2⟩ := h1
        have HE := Lib.hid (fldErr (s := s) (show r = .error c from by
          rw [HRN.out]
          refine andR_err ?_ _
          rw [show n = (k + 1) + (n - (k + 1)) by have := HLT.out; omega]
          refine rdExs_bad _ _ _ _ ?_
          rw [rdExs_snoc, andR_ok HX.out.2, andR_err hn]) (HD.out.1.kr hk2) (keep2 HD.out.2.2.1 hk2 HB.out.2.2.2.2.2))
        clear hn hk2 HC
        (try simp only [Exit.inBlock, Exit.then])
        exact bodyPost_pan (P := Try.prog) (fn := Try.f23) rfl HE.out
      rw [hn] at h1
      obtain ⟨⟨ca, cc, rfl, hox⟩, h1, hk2⟩ := h1
      have hcx : coreX { x with ca := ca, cc := cc } = x := (rdEx_core hn ▸ rfl : coreX { x with ca := ca, cc := cc } = coreX x).trans (rdEx_core hn)
      have hsn : rdExs (k + 1) l5 = .ok ((X ++ [{ x with ca := ca, cc := cc }]).map coreX, m2) := by
        rw [rdExs_snoc, andR_ok HX.out.2, andR_ok hn, List.map_append, List.map_singleton, hcx]
      have hsz : w.heap.size ≤ v1.heap.size := HD.out.1.size
      obtain ⟨y, hy⟩ : ∃ y : Exch, y = { x with ca := ca, cc := cc } := ⟨_, rfl⟩
      have H2 := Lib.hid (And.intro h1 (And.intro (HD.out.1.kr hk2) (And.intro (keep2 HD.out.2.1 hk2 HB.out.1) (And.intro (keep2 HD.out.2.2.1 hk2 HB.out.2.2.2.2.2) (ownX.kr HD.out.2.2.2 hk2 HB.out.2.2.1)))))
      have HO2 := Lib.hid (show ∀ z ∈ X ++ [y], OwnN w.heap.size v2 z.ca z.cs z.cc from fun z hz => by
        rcases List.mem_append.1 hz with hz | hz
        · exact (HOD.out z hz).kr hk2 HB.out.2.2.1
        · rw [List.mem_singleton.1 hz, hy]; exact ownMore hox hsz)
      rw [← hy] at hsn
      rw [← hy]
      have HSN := Lib.hid hsn
      refine hK.out _ _ (fun _ => HS9.out _ H2.out.2.2.1 H2.out.2.2.2.1) ?_
      clear hK K hn h1 hk2 HC hox hcx hsn hy hsz
      simp only [Act.put, List.setIfInBounds_toArray, List.set_cons_zero, List.set_cons_succ]
      refine wpAnyS_ready (rs := [7]) (by kernel_rfl) (by simp) ?_
      refine AllReadyS.cons rfl (fun K hK => ?_) AllReadyS.nil
      refine step_buildSlice_row rfl 33 (.tmp 125) rfl 51 i2 _ Try.underlying33 hj hy0 (exA y) rfl hy1 (by show 0 < 6; omega) (by show 6 ≤ 16777216; omega) ?_
      have hb := ba (br v2) (.cells (exA y) 51)
      have H3 := Lib.hid (And.intro (H2.out.1.below hb) (And.intro (H2.out.2.1.kr (KR.below (R := R) hb)) (And.intro ((hb.block _ (Array.getElem?_eq_some_iff.1 H2.out.2.2.1).1).trans H2.out.2.2.1) (And.intro ((hb.block _ (Array.getElem?_eq_some_iff.1 H2.out.2.2.2.1).1).trans H2.out.2.2.2.1) (ownX.kr H2.out.2.2.2.2 (KR.below (R := R) hb) HB.out.2.2.1)))))
      have HO3 := Lib.hid (show ∀ z ∈ X ++ [y], OwnN w.heap.size (v2.alloc (.cells (exA y) 51)) z.ca z.cs z.cc from fun z hz => (HO2.out z hz).kr (KR.below (R := R) hb) HB.out.2.2.1)
      have HNX := Lib.hid (new_ex v2 y)
      have hsz : w.heap.size ≤ (v2.alloc (.cells (exA y) 51)).heap.size := H3.out.2.1.size
      refine hK.out _ _ (fun _ => HS9.out _ H3.out.2.2.1 H3.out.2.2.2.1) ?_
      clear hK K hb
      simp only [Act.put, List.setIfInBounds_toArray, List.set_cons_zero, List.set_cons_succ]
      refine wpAnyS_ready (rs := [8]) (by kernel_rfl) (by simp) ?_
      refine AllReadyS.cons rfl (fun K hK => ?_) AllReadyS.nil
      refine step_append_any _ rfl (.tmp 123) (.tmp 126) 33 rfl w.heap.size 51 i2 _ 6 64 Try.underlying33 hj hy0 hy1 hy2 rfl (by decide) (.slice ad X.length cap) X.length (exsM X) rfl H3.out.2.2.2.2 (v2.heap.size + 1) (some ⟨v2.heap.size, 0, none⟩) 1 1 (exA y).toList rfl HNX.out (exA_one _) (by unfold maxLen; omega) (by omega) hsz ?_
      intro v7 w7 ho7 hg7 hu7
      obtain ⟨a7, q7, rfl⟩ := ownForm ho7
      have hblt := fun b hb => (H3.out.2.2.2.2.lt b hb).1
      have hblk := Lib.ownsRow_kind H3.out.2.2.2.2
      have hk7 : Kept (fun b => Value.ownBlock (.slice ad X.length cap) = some b) (v2.alloc (.cells (exA y) 51)) w7 := ⟨hg7.os, hg7.tape, hg7.output, hg7.size, fun i hi hs => hg7.block i hi (fun e => hs e.symm)⟩
      have hkB : Kept (fun b => w.heap.size ≤ b) (v2.alloc (.cells (exA y) 51)) w7 := ⟨hg7.os, hg7.tape, hg7.output, hg7.size, fun i hi hs => hg7.block i hi (fun e => hs (hblt i e.symm))⟩
      have hNb : ¬ Value.ownBlock (.slice ad X.length cap) = some N := fun e => by
        obtain ⟨c, fz, hc⟩ := hblk N e
        have := H3.out.2.2.1
        rw [this] at hc
        injection hc with hc
        injection hc with _ hc
        exact absurd hc (by decide)
      have H4 := Lib.hid (And.intro (H3.out.1.kept hkB (by have := HB.out.2.2.1; omega)) (And.intro (show KP R Pb w w7 from by
        have hh := H3.out.2.1
        exact ⟨hkB.os.trans hh.os, hkB.tape.trans hh.tape, hkB.output.trans hh.output, Nat.le_trans hh.size hkB.size, fun i hi hs => (hkB.block i (Nat.lt_of_lt_of_le hi hh.size) (by omega)).trans (hh.block i hi hs)⟩) (And.intro (hk7.keep H3.out.2.2.1 hNb) (And.intro (hkB.keep H3.out.2.2.2.1 (by have := HB.out.2.2.2.1; omega)) ho7))))
      have HO4 := Lib.hid (show ∀ z ∈ X ++ [y], OwnN w.heap.size w7 z.ca z.cs z.cc from fun z hz => (HO3.out z hz).kept hk7 (fun b cs fr hb _ e => by
        obtain ⟨c, fz, hc⟩ := hblk b e
        rw [hb] at hc
        injection hc with hc
        injection hc with _ hc
        exact absurd hc (by decide)))
      refine hK.out _ _ (fun _ => HS9.out _ H4.out.2.2.1 H4.out.2.2.2.1) ?_
      clear hK K ho7 hg7 hu7 hblt hblk hk7 hkB hNb hsz
      simp only [Act.put, List.setIfInBounds_toArray, List.set_cons_zero, List.set_cons_succ]
      refine wpAnyS_ready (rs := [9]) (by kernel_rfl) (by simp) ?_
      refine AllReadyS.cons rfl (fun K hK => ?_) AllReadyS.nil
      go_simp
      refine hK.out _ _ (fun _ => HS9.out _ H4.out.2.2.1 H4.out.2.2.2.1) ?_
      clear hK K
      simp only [Act.put, List.setIfInBounds_toArray, List.set_cons_zero, List.set_cons_succ]
      refine wpAnyS_ready (rs := [10]) (by kernel_rfl) (by simp) ?_
      refine AllReadyS.cons rfl (fun K hK => ?_) AllReadyS.nil
      go_simp
      refine hK.out _ _ (fun _ => HS9.out _ H4.out.2.2.1 H4.out.2.2.2.1) ?_
      clear hK K
      simp only [Act.put, List.setIfInBounds_toArray, List.set_cons_zero, List.set_cons_succ]
      have d21 : w7.cell? ⟨Pb, 21, none⟩ = some (.slice ad X.length cap) := cell_of_row _ _ 21 _ _ _ H4.out.2.2.2.1
      have f21 : w7.frozen? ⟨Pb, 21, none⟩ = false := frozen_of_row _ _ _ _ _ H4.out.2.2.2.1
      refine wpAnyS_ready (rs := [11]) (by kernel_rfl) (by simp) ?_
      refine AllReadyS.cons rfl (fun K hK => ?_) AllReadyS.nil
      go_simp
      refine hK.out _ _ (fun h => absurd h (by decide)) ?_
      clear hK K d21 f21
      simp only [Act.put, List.setIfInBounds_toArray, List.set_cons_zero, List.set_cons_succ]
      obtain ⟨w8, hw8⟩ : ∃ w8, w8 = w7.setCell ⟨Pb, 21, none⟩ (.slice a7 (X.length + 1) q7) := ⟨_, rfl⟩
      rw [← hw8]
      have hlen : (X ++ [y]).length = X.length + 1 := by simp
      have HE := Lib.hid (show Hid ((X ++ [y]).length = k + 1 ∧ rdExs (k + 1) l5 = .ok ((X ++ [y]).map coreX, m2)) ∧ RdL w8 R s m2 ∧ KP R Pb w w8 ∧ w8.heap[N]? = some (.cells #[.pointer (some ⟨R, 0, none⟩)] 63 (0, 0)) ∧ w8.heap[Pb]? = some (.cells (pktA { zeroP with kind := 7, frm := f, dst := t, ce := c1.1, cr := (c1.2 : Int), mem := a, xs := X ++ [y], xa := a7, xc := q7 }) 35 (0, 0)) ∧ w8.ownsRow w.heap.size 51 6 (.slice a7 (X ++ [y]).length q7) (X ++ [y]).length (exsM (X ++ [y])) ∧ Hid (∀ z ∈ X ++ [y], OwnN w.heap.size w8 z.ca z.cs z.cc) from by
        rw [hw8]
        refine ⟨⟨by rw [hlen, HX.out.1], HSN.out⟩, RdL.kept H4.out.1 (keptS _ ⟨Pb, 21, none⟩ _) (fun e => HB.out.2.2.2.2.2 e.symm), H4.out.2.1.st 21 _, (keptS _ ⟨Pb, 21, none⟩ _).keep H4.out.2.2.1 HB.out.2.1, ?_, ?_, fun z hz => (HO4.out z hz).st HB.out.2.2.2.1 21 _⟩
        · have := setCell_block H4.out.2.2.2.1 21 (.slice a7 (X.length + 1) q7)
          rw [← hlen] at this ⊢
          exact this
        · have := ownX.st H4.out.2.2.2.2 HB.out.2.2.2.1 21 (.slice a7 (X.length + 1) q7)
          rw [hlen, exsM_snoc]
          exact this)
      have hkn := HLT.out
      clear hw8 hlen
      refine wpAnyS_doneP (by kernel_rfl) ?_ _
      go_wp2_with fail
      exact ⟨⟨k + 1, X ++ [y], m2, a7, q7, HLT.out, by go_num, HE.out.1, HE.out.2.1, HE.out.2.2.1, HE.out.2.2.2.1, HE.out.2.2.2.2.1, HE.out.2.2.2.2.2.1, HE.out.2.2.2.2.2.2⟩, measI HLT.out⟩
    · have hbool : decide ((k : Int) < (n : Int)) = false := by rw [decide_eq_false_iff_not]; omega
      have hbool' : decide (k < n) = false := by rw [decide_eq_false_iff_not]; exact hlt
      have hkn : k = n := by omega
      have HRZ := Lib.hid (show r = finR { ({ zeroP with kind := 7, frm := f, dst := t, ce := c1.1, cr := (c1.2 : Int) } : Pkt) with mem := a, xs := X.map coreX } lk from by
        rw [HRN.out, ← hkn]
        exact andR_ok HX.out.2 _)
      have HC := Lib.hid (left_rd hl)
      have c0 : wr.cell? ⟨N, 0, none⟩ = some (.pointer (some ⟨R, 0, none⟩)) := cell_of_row _ _ 0 _ _ _ hb
      clear hl hkp hb hp ho hlt hkn
      go_wp2_with fail
      refine HC.out.mono ?_
      rintro e v9 ⟨rfl, hb⟩
      have HW := Lib.hid (And.intro (HK.out.2.1.kr (KR.below hb)) ((hb.block _ (Array.getElem?_eq_some_iff.1 HK.out.2.2.2.1).1).trans HK.out.2.2.2.1))
      have HO9 := Lib.hid (show OwnPk w.heap.size v9 { zeroP with kind := 7, frm := f, dst := t, ce := c1.1, cr := (c1.2 : Int), mem := a, xs := X, xa := ad, xc := cap } from ⟨.nil _ _, .nil _ _, ownX.kr HK.out.2.2.2.2 (KR.below (R := R) hb) HB.out.2.2.1, fun z hz => (HO.out z hz).kr (KR.below (R := R) hb) HB.out.2.2.1⟩)
      clear hb c0 HC
      by_cases h4 : 0 < lk.length
      · have HE := Lib.hid (fldErr (s := s) (show r = .error 4 from by rw [HRZ.out]; exact if_pos h4) HW.out.1 HW.out.2)
        have d1 : decide (0 < lk.length) = true := by rw [decide_eq_true_eq]; exact h4
        have d2 : decide ((0 : Int) < (lk.length : Int)) = true := by rw [decide_eq_true_eq]; omega
        clear h4
        go_wp2_with (go_at_call 50; refine (bad_so 4 _).mono ?_; rintro e w' ⟨rfl, rfl⟩)
        exact bodyPost_pan (P := Try.prog) (fn := Try.f23) rfl HE.out
      · have HE := Lib.hid (show FldEnd R Pb s w r (.returned (.tuple #[])) v9 from by
          rw [show r = .ok ({ ({ zeroP with kind := 7, frm := f, dst := t, ce := c1.1, cr := (c1.2 : Int) } : Pkt) with mem := a, xs := X.map coreX }, lk) from by rw [HRZ.out]; exact if_neg h4]
          exact ⟨rfl, HW.out.1, _, HW.out.2, coreP_xs { ({ zeroP with kind := 7, frm := f, dst := t, ce := c1.1, cr := (c1.2 : Int) } : Pkt) with mem := a } X ad cap, HO9.out⟩)
        have d1 : decide (0 < lk.length) = false := by rw [decide_eq_false_iff_not]; exact h4
        have d2 : decide ((0 : Int) < (lk.length : Int)) = false := by rw [decide_eq_false_iff_not]; omega
        clear h4
        go_wp2_with (go_at_call 50; refine (bad_no 4 _).mono ?_; rintro e w' ⟨rfl, rfl⟩)
        go_end0
        exact HE.out
end Go.Proofs.Ytgpojbmloielmaa
