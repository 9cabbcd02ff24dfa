/-
  What the laws' Item, and the reference's comparison of items, return.
  Conditions: none.
-/
import Derived.Test.YtilijegipjpdlaaChunkA
namespace Go.Proofs.Ytilijegipjpdlaa
set_option linter.unusedVariables false
open Go.RowKit
theorem bsr {a b : World} (h : Below a.heap.size a b) {g : Nat} (hg : a.heap.size ≤ g) (cs : Array Value) : Below a.heap.size a (b.setRow g cs) :=
  ⟨h.os, h.tape, h.output, by simpa [World.setRow] using h.size, fun i hi => (setRow_other _ _ _ _ (by omega)).trans (h.block i hi)⟩
theorem Bel.block {w : World} {b : Nat} {t : TypeId} {cs : Array Value} (h : w.heap[b]? = some (.cells cs t (0, 0))) (x : Bel w) (i : Nat) : x.val.cell? ⟨b, i, none⟩ = cs[i]? :=
  cell_of_row _ _ _ cs t (0, 0) ((x.prop.block b (Array.getElem?_eq_some_iff.1 h).1).trans h)
/-- a record's cells -/
structure RecV where
  l0 : Int
  l1 : Int
  l2 : Int
  l3 : Int
  ad : Option Addr
  len : Nat
  cap : Nat
def recA (x : RecV) : Array Value := #[.int .u64 x.l0, .int .u64 x.l1, .int .i64 x.l2, .int .u64 x.l3, .slice x.ad x.len x.cap]
theorem after1 {w w1 : World} {A : Array Value} {t : TypeId} (hb : Below (w.alloc (.cells A t)).heap.size (w.alloc (.cells A t)) w1) :
    (∀ i, w1.cell? ⟨w.heap.size, i, none⟩ = A[i]?) ∧ (∀ i, w1.frozen? ⟨w.heap.size, i, none⟩ = false) := by
  have h0 := (hb.block w.heap.size (by simp)).trans (heap_alloc_new w _)
  exact ⟨fun i => cell_of_row _ _ _ A t (0, 0) h0, fun i => frozen_of_row _ _ _ A t h0⟩
theorem after2 {w w1 : World} {A B : Array Value} {t t' : TypeId} (hb : Below ((w.alloc (.cells A t)).alloc (.cells B t')).heap.size ((w.alloc (.cells A t)).alloc (.cells B t')) w1) :
    (∀ i, w1.cell? ⟨w.heap.size, i, none⟩ = A[i]?) ∧ (∀ i, w1.cell? ⟨w.heap.size + 1, i, none⟩ = B[i]?) ∧ (∀ i, w1.frozen? ⟨w.heap.size, i, none⟩ = false) ∧ (∀ i, w1.frozen? ⟨w.heap.size + 1, i, none⟩ = false) := by
  have h0 := (hb.block w.heap.size (by simp; omega)).trans (heap_alloc2_old w _ _)
  have h1 := (hb.block (w.heap.size + 1) (by simp)).trans (heap_alloc2_new w _ _)
  exact ⟨fun i => cell_of_row _ _ _ A t (0, 0) h0, fun i => cell_of_row _ _ _ B t' (0, 0) h1, fun i => frozen_of_row _ _ _ A t h0, fun i => frozen_of_row _ _ _ B t' h1⟩
theorem rec_any (x : RecV) (w : World) :
    Calls Try.prog 18 #[.agg (recA x)] w fun e w' => e = .returned (.agg (recA x)) ∧ Below w.heap.size w w' := by
  obtain ⟨a, b, c, d, p, q, r⟩ := x
  unfold recA
  go_enter Try.func18, Try.ntmps18
  go_wp2
  refine bodyPost_ret (v := .agg #[.int .u64 a, .int .u64 b, .int .i64 c, .int .u64 d, .slice p q r]) (by simp [results, Try.results18, go_sem]) rfl ⟨rfl, ?_⟩
  exact ba (ba (br _) _) _
/-- an item's cells -/
structure ItemV where
  kind : Int
  data : ByteArray
  inc : Int
  holds : Int
  has : Bool
  direct : Bool
  rc : RecV
  v0 : Int
  v1 : Int
  v2 : Int
  v3 : Int
  number : Nat
  index : Int
  total : Int
def itemA (x : ItemV) : Array Value := #[.int .i64 x.kind, .string x.data, .int .u32 x.inc, .int .u64 x.holds, .bool x.has, .bool x.direct, .int .u64 x.rc.l0, .int .u64 x.rc.l1, .int .i64 x.rc.l2, .int .u64 x.rc.l3, .slice x.rc.ad x.rc.len x.rc.cap,
  .int .u64 x.v0, .int .u64 x.v1, .int .i64 x.v2, .int .u64 x.v3, .int .u64 (x.number : Int), .int .i64 x.index, .int .i64 x.total]
set_option maxHeartbeats 1000000 in
theorem lawItem_any (x : ItemV) (w : World) :
    Calls Try.prog 10 #[.agg (itemA x)] w fun e w' => e = .returned (.agg (itemA x)) ∧ Below w.heap.size w w' := by
  obtain ⟨x0, x1, x2, x3, x4, x5, ⟨x6, x7, x8, x9, x10, x10b, x10c⟩, x11, x12, x13, x14, x15, x16, x17⟩ := x
  unfold itemA
  have hrec := fun W : World => rec_any ⟨x6, x7, x8, x9, x10, x10b, x10c⟩ W
  unfold recA at hrec
  simp only at hrec ⊢
  have HR := Lib.hid hrec
  clear hrec
  go_enter Try.func10, Try.ntmps10
  go_wp2
  refine wp_region_bel_tail 24 (by kernel_rfl) (by kernel_rfl) ?_
  simp only [List.take_succ_cons, List.take_zero, List.drop_succ_cons, List.drop_zero]
  have hA := Bel.block (heap_alloc2_old w (.cells #[.int .i64 x0, .string x1, .int .u32 x2, .int .u64 x3, .bool x4, .bool x5, .int .u64 x6, .int .u64 x7, .int .i64 x8, .int .u64 x9, .slice x10 x10b x10c, .int .u64 x11, .int .u64 x12, .int .i64 x13, .int .u64 x14, .int .u64 (x15 : Int), .int .i64 x16, .int .i64 x17] 42) (.cells (itemL ⟨#[]⟩ 0 0 0 |>.set 0 (.int .i64 0)).toArray 38))
  have hZ := heap_alloc2_new w (.cells #[.int .i64 x0, .string x1, .int .u32 x2, .int .u64 x3, .bool x4, .bool x5, .int .u64 x6, .int .u64 x7, .int .i64 x8, .int .u64 x9, .slice x10 x10b x10c, .int .u64 x11, .int .u64 x12, .int .i64 x13, .int .u64 x14, .int .u64 (x15 : Int), .int .i64 x16, .int .i64 x17] 42) (.cells (itemL ⟨#[]⟩ 0 0 0 |>.set 0 (.int .i64 0)).toArray 38)
  have hZl := (Array.getElem?_eq_some_iff.1 hZ).1
  simp only [itemL, List.set_cons_zero] at hA hZ hZl
  have HZ := Lib.hid hZ
  have HB := Lib.hid (ba (ba (br w) (.cells #[.int .i64 x0, .string x1, .int .u32 x2, .int .u64 x3, .bool x4, .bool x5, .int .u64 x6, .int .u64 x7, .int .i64 x8, .int .u64 x9, .slice x10 x10b x10c, .int .u64 x11, .int .u64 x12, .int .i64 x13, .int .u64 x14, .int .u64 (x15 : Int), .int .i64 x16, .int .i64 x17] 42)) (.cells (itemL ⟨#[]⟩ 0 0 0 |>.set 0 (.int .i64 0)).toArray 38))
  clear hZ
  repeat (go_big_quiet_step ((go_at_call 18; exact bel_call (HR.out _))))
  refine wpQuiet_nil ?_
  intro w5 hw5
  obtain ⟨x, rfl⟩ := hw5
  clear hA
  have hZx := (x.prop.block (w.heap.size + 1) hZl).trans HZ.out
  have hB1 := bt HB.out x.prop
  refine wpList_store_row rfl 38 (.tmp 2) (.tmp 26) rfl (w.heap.size + 1) _ rfl rfl 38 _ hZx (by kernel_rfl) rfl (by simp [Value.oneCell']) ?_
  go_wp2_with fail
  refine bodyPost_ret (results_cell_row Try.results10 _ _ (w.heap.size + 1) 38 _ (0, 0) _ rfl (setRow_heap _ _ _ _ _ _ hZx) Try.underlying38 rfl (by kernel_rfl)) rfl ⟨rfl, ?_⟩
  exact bsr hB1 (by simp) _
theorem views_nil (w : World) :
    Calls Try.prog 21 #[.slice none 0 0, .slice none 0 0] w fun e w' => e = .returned (.bool true) ∧ w = w' := by
  go_enter Try.func21, Try.ntmps21
  go_wp2
  go_rounds 1
  go_ret
  exact ⟨rfl, rfl⟩
theorem same18_nil (w : World) :
    Calls Try.prog 17 #[.agg #[.int .u64 0, .int .u64 0, .int .i64 0, .int .u64 0, .slice none 0 0], .agg #[.int .u64 0, .int .u64 0, .int .i64 0, .int .u64 0, .slice none 0 0]] w fun e w' => e = .returned (.bool true) ∧ Below w.heap.size w w' := by
  go_enter Try.func17, Try.ntmps17
  go_wp2_with fail
  refine (views_nil _).mono ?_
  rintro e w' ⟨rfl, rfl⟩
  go_wp2
  go_ret
  exact ⟨rfl, ba (ba (br _) _) _⟩
set_option maxHeartbeats 1000000 in
theorem items19_same (d : ByteArray) (n : Nat) (i t : Int) (w : World) :
    Calls Try.prog 9 #[.agg (itemL d n i t).toArray, .agg (itemL d n i t).toArray] w fun e w' => e = .returned (.bool true) ∧ Below w.heap.size w w' := by
  unfold itemL
  go_enter Try.func9, Try.ntmps9
  go_wp2_with fail
  refine (same18_nil _).mono ?_
  rintro e w1 ⟨rfl, hb1⟩
  obtain ⟨hA, hB, fA, fB⟩ := after2 hb1
  have hb2 := bt (ba (ba (br _) _) _) hb1
  clear hb1
  go_wp2
  go_ret
  exact ⟨rfl, hb2⟩
end Go.Proofs.Ytilijegipjpdlaa
