/-
  What the laws' awake and Few return.
  Conditions: those that each theorem names.
-/
import Derived.Test.YtgpojbmloielmaaReadI
import Derived.Test.YtgpojbmloielmaaPackQ
namespace Go.Proofs.Ytgpojbmloielmaa
set_option linter.unusedVariables false
set_option linter.unusedSimpArgs false
open Go.RowKit
def a1P : Pkt := { zeroP with kind := 10, frm := 1, dst := 2, ce := 5, cr := 1 }
def a2P : Pkt := { zeroP with kind := 6 }
def a1S : ByteArray := ⟨#[197, 1, 10, 1, 2, 0, 9, 0, 0, 0, 0, 0, 0, 0, 5, 1, 61, 36, 101, 72]⟩
theorem awake_ext (a b : ByteArray) (h : a.data.toList = b.data.toList) : a = b := ByteArray.ext (Array.ext' h)
theorem a1_cut : (((⟨#[197, 1, 10, 1, 2, 0, 9, 0, 0, 0, 0, 0, 0, 0, 5, 1, 61, 36, 101, 72]⟩ : ByteArray).extract 7 16).toList == [0, 0, 0, 0, 0, 0, 0, 5, 1]) = true := by decide +kernel
theorem a1_s : pktS a1P = a1S := awake_ext _ _ (by decide +kernel)
theorem a1_e : pktE a1P = 0 := by decide +kernel
theorem a2_e : pktE a2P = 1 := by decide +kernel
theorem a1_pe : pktPE a1S = 0 := by decide +kernel
theorem a1_q : (pktPQ a1S).kind = 10 ∧ (pktPQ a1S).ce = 5 ∧ (pktPQ a1S).cr = 1 := by decide +kernel
theorem bldA1 : Try.prog.built 35 [(0, .int .i64 10), (1, .int .i64 1), (2, .int .i64 2), (3, .agg #[.int .u64 5, .int .i64 1])] = some (pktA a1P) := by kernel_rfl
theorem bldA2 : Try.prog.built 35 [(0, .int .i64 6)] = some (pktA a2P) := by kernel_rfl
theorem a1_ok (w : World) : PktOk w a1P := ⟨by decide, (zeroP_ok w).m, by decide, by decide, .nil w, by decide, by decide, by decide, by decide, by decide, .nil w⟩
theorem a2_ok (w : World) : PktOk w a2P := ⟨by decide, (zeroP_ok w).m, by decide, by decide, .nil w, by decide, by decide, by decide, by decide, by decide, .nil w⟩
theorem core_kind {a b : Pkt} (h : coreP a = coreP b) : a.kind = b.kind ∧ a.ce = b.ce ∧ a.cr = b.cr :=
  ⟨by have := congrArg Pkt.kind h; exact this, by have := congrArg Pkt.ce h; exact this, by have := congrArg Pkt.cr h; exact this⟩
set_option maxRecDepth 100000 in
set_option maxHeartbeats 8000000 in
theorem awake_any (w : World) : Calls Try.prog 8 #[] w fun e w' => e = .returned (.bool true) ∧ Below w.heap.size w w' := by
  obtain ⟨Z1, hZ1⟩ : ∃ Z, Z = pktA a1P := ⟨_, rfl⟩
  obtain ⟨Z2, hZ2⟩ : ∃ Z, Z = pktA a2P := ⟨_, rfl⟩
  have hb1 := bldA1
  have hb2 := bldA2
  rw [← hZ1] at hb1
  rw [← hZ2] at hb2
  have H1 := Lib.hid (show ∀ W : World, Calls Try.prog 14 #[.agg Z1] W fun e w' => e = .returned (.tuple #[.string a1S, .int .i64 0]) ∧ Below W.heap.size W w' from fun W => by
    have := pkPrint_any a1P W (a1_ok W)
    rw [a1_s, a1_e, ← hZ1] at this
    exact this)
  have H2 := Lib.hid (show ∀ W : World, Calls Try.prog 14 #[.agg Z2] W fun e w' => e = .returned (.tuple #[.string (pktS a2P), .int .i64 1]) ∧ Below W.heap.size W w' from fun W => by
    have := pkPrint_any a2P W (a2_ok W)
    rw [a2_e, ← hZ2] at this
    exact this)
  have H3 := Lib.hid (show ∀ W : World, Calls Try.prog 10 #[.string a1S] W fun e w' => ∃ q, e = .returned (.tuple #[.agg (pktA q), .int .i64 0]) ∧ q.kind = 10 ∧ q.ce = 5 ∧ q.cr = 1 ∧ Below W.heap.size W w' from fun W => by
    refine (pkParse_any a1S W (by decide)).mono ?_
    rintro e w' ⟨⟨q, rfl, hc, _⟩, hb⟩
    obtain ⟨c1, c2, c3⟩ := core_kind hc
    exact ⟨q, by rw [a1_pe], c1.trans a1_q.1, c2.trans a1_q.2.1, c3.trans a1_q.2.2, hb⟩)
  have HB := Lib.hid (And.intro hb1 hb2)
  clear hZ1 hZ2 hb1 hb2
  generalize pktS a2P = s2 at H2
  unfold a1S at H1 H3
  go_enter Try.func8, Try.ntmps8
  go_upto_region 1 with (fail)
  refine wp_region_lit ?_
  refine wpList_step (fun K hK => ?_)
  go_simp
  refine hK _ _ ?_
  clear hK K
  (try simp only [Act.put, List.setIfInBounds_toArray, List.set_cons_zero, List.set_cons_succ])
  refine wpList_buildZ rfl 35 #[(0, .const (.int .i64 10)), (1, .const (.int .i64 1)), (2, .const (.int .i64 2)), (3, .tmp 8)] rfl Z1 (by simp only [List.map_toArray, List.map_cons, List.map_nil]; exact HB.out.1) ?_
  (try simp only [Act.put, List.setIfInBounds_toArray, List.set_cons_zero, List.set_cons_succ])
  refine wpList_step (fun K hK => ?_)
  go_simp
  refine (H1.out _).mono ?_
  rintro e w1 ⟨rfl, hw1⟩
  refine hK _ _ ?_
  clear hK K
  (try simp only [Act.put, List.setIfInBounds_toArray, List.set_cons_zero, List.set_cons_succ])
  have HW1 := Lib.hid hw1
  clear hw1
  go_wp2_with fail
  refine (H3.out _).mono ?_
  rintro e w2 ⟨q, rfl, k1, k2, k3, hw2⟩
  have HW2 := Lib.hid (bt HW1.out hw2)
  obtain ⟨A, hA⟩ : ∃ A, A = pktA q := ⟨_, rfl⟩
  have hA0 : A[0]? = some (.int .i64 10) := by rw [hA, ← k1]; rfl
  have hA3 : A[3]? = some (.int .u64 5) := by rw [hA]; show some (Value.int .u64 (q.ce : Int)) = _; rw [k2]; rfl
  have hA4 : A[4]? = some (.int .i64 1) := by rw [hA]; show some (Value.int .i64 q.cr) = _; rw [k3]
  have HA := Lib.hid (And.intro hA0 (And.intro hA3 (And.intro hA4 (And.intro (show A.size = 22 by rw [hA]; rfl) (show A.all (·.oneCell') = true by rw [hA]; exact oneCell_pktA q)))))
  rw [← hA]
  clear hA hA0 hA3 hA4 k1 k2 k3 hw2
  obtain ⟨P, hP⟩ : ∃ P, P = w2.heap.size := ⟨_, rfl⟩
  have hz := heap_alloc_new w2 (.cells (pktA zeroP) 35)
  have hbz := ba (br w2) (.cells (pktA zeroP) 35)
  rw [show pktA zeroP = #[.int .i64 0, .int .i64 0, .int .i64 0, .int .u64 0, .int .i64 0, .int .i64 0, .int .u32 0, .int .u64 0, .int .i64 0, .slice none 0 0, .string ⟨#[]⟩, .int .u64 0, .int .u32 0, .slice none 0 0, .int .u64 0, .int .i64 0, .int .u32 0, .int .u64 0, .int .u64 0, .int .i64 0, .int .u64 0, .slice none 0 0] from rfl] at hz hbz
  rw [← hP] at hz
  obtain ⟨w3, hw3⟩ : ∃ w3, w3 = (w2.alloc (.cells #[.int .i64 0, .int .i64 0, .int .i64 0, .int .u64 0, .int .i64 0, .int .i64 0, .int .u32 0, .int .u64 0, .int .i64 0, .slice none 0 0, .string ⟨#[]⟩, .int .u64 0, .int .u32 0, .slice none 0 0, .int .u64 0, .int .i64 0, .int .u32 0, .int .u64 0, .int .u64 0, .int .i64 0, .int .u64 0, .slice none 0 0] 35)).setRow P A := ⟨_, rfl⟩
  have hk3 := kept_setRow (w2.alloc (.cells #[.int .i64 0, .int .i64 0, .int .i64 0, .int .u64 0, .int .i64 0, .int .i64 0, .int .u32 0, .int .u64 0, .int .i64 0, .slice none 0 0, .string ⟨#[]⟩, .int .u64 0, .int .u32 0, .slice none 0 0, .int .u64 0, .int .i64 0, .int .u32 0, .int .u64 0, .int .u64 0, .int .i64 0, .int .u64 0, .slice none 0 0] 35)) P A
  have HZ := Lib.hid (And.intro hz (And.intro hP (show w3.heap[P]? = some (.cells A 35 (0, 0)) ∧ Below w.heap.size w w3 from by
    rw [hw3]
    exact ⟨setRow_heap _ _ _ _ _ _ hz, hk3.out (bt HW2.out hbz) (by have := HW2.out.size; have := hbz.size; omega) (fun k hk' e => by have := HW2.out.size; omega)⟩)))
  clear hz hbz hk3 hP
  go_upto_region 3 with (refine wpList_store_row rfl 35 (.tmp 3) (.tmp 16) rfl P A (by rw [HZ.out.2.1]; rfl) rfl 35 _ HZ.out.1 (by rw [HA.out.2.2.2.1]; kernel_rfl) (by rw [HA.out.2.2.2.1]; rfl) HA.out.2.2.2.2 ?_)
  rw [← hw3, ← HZ.out.2.1]
  clear hw3
  refine wp_region_lit ?_
  refine wpList_buildZ rfl 35 #[(0, .const (.int .i64 6))] rfl Z2 (by simp only [List.map_toArray, List.map_cons, List.map_nil]; exact HB.out.2) ?_
  (try simp only [Act.put, List.setIfInBounds_toArray, List.set_cons_zero, List.set_cons_succ])
  refine wpList_step (fun K hK => ?_)
  go_simp
  refine (H2.out _).mono ?_
  rintro e w4 ⟨rfl, hw4⟩
  refine hK _ _ ?_
  clear hK K
  (try simp only [Act.put, List.setIfInBounds_toArray, List.set_cons_zero, List.set_cons_succ])
  have h4 := (hw4.block _ (Array.getElem?_eq_some_iff.1 HZ.out.2.2.1).1).trans HZ.out.2.2.1
  have c0 : w4.cell? ⟨P, 0, none⟩ = some (.int .i64 10) := (cell_of_row _ _ 0 _ _ _ h4).trans HA.out.1
  have c3 : w4.cell? ⟨P, 3, none⟩ = some (.int .u64 5) := (cell_of_row _ _ 3 _ _ _ h4).trans HA.out.2.1
  have c4 : w4.cell? ⟨P, 4, none⟩ = some (.int .i64 1) := (cell_of_row _ _ 4 _ _ _ h4).trans HA.out.2.2.1
  have HE := Lib.hid (bt HZ.out.2.2.2 hw4)
  clear hw4 h4
  have hx := a1_cut
  go_wp2_with fail
  go_ret
  exact ⟨rfl, HE.out⟩
end Go.Proofs.Ytgpojbmloielmaa
