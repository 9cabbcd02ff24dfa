/-
  What the key's Of, the order of messages, and a copy of a slice of messages return.
  Conditions: none.
-/
import Derived.Test.YtodlmboagbjcbaaKeyB
import Derived.WalkLawsBesides
namespace Go.Proofs.Ytodlmboagbjcbaa
set_option linter.unusedVariables false
set_option linter.unusedSimpArgs false
open Go.RowKit
set_option maxRecDepth 100000 in
set_option maxHeartbeats 2000000 in
theorem kClone_any (l : List Msg) (p : Addr) (cap : Nat) (w : World) (h : Reads w w.heap.size 6 (some p) l.length (rowsM l)) (hl : l.length ≤ 1000) : Calls Try.prog 42 #[.slice (some p) l.length cap] w fun e w' => ∃ v, e = .returned v ∧ w'.ownsRow w.heap.size 37 6 v l.length (rowsM l) ∧ Below w.heap.size w w' := by
  obtain ⟨i0, hi, hz0, hz1, hz2⟩ := info_parts info37
  have hb := ba (br w) (.cells #[] 37)
  have own1 := ownNil w w.heap.size 37 6 (Nat.le_refl _)
  have HR := Lib.hid (h.below hb)
  have H1 := Lib.hid (And.intro own1 hb)
  have hone := rowsM_one l
  have hnil : ∀ W : World, (Go.binOp .eql 22 (.slice (some p) l.length cap) (.slice none 0 0)).run Try.prog W = .ok (.bool false) W := fun W => Lib.run_eql_slice_nil W 22 37 (some p) l.length cap 0 0 Try.underlying22
  clear h own1 hb
  go_enter Try.func42, Try.ntmps42
  go_wp2_with (at_builtin; refine wpList_append_any _ rfl (.tmp 5) (.tmp 6) 22 rfl w.heap.size 37 i0 _ 6 72 Try.underlying22 hi hz0 hz1 hz2 rfl (by decide) _ 0 [] rfl H1.out.1 w.heap.size _ l.length _ (rowsM l) rfl HR.out hone ?c3 ?c4 ?c5 ?_)
  case c3 => unfold maxLen; omega
  case c4 => omega
  case c5 => simp
  intro v6 w6 ho6 hg6 hu6
  have hb6 := grownB H1.out.2 H1.out.2.size hg6 (fun b hb => (H1.out.1.lt b hb).1)
  go_wp2
  go_ret
  exact ⟨_, rfl, ho6, hb6⟩
set_option maxRecDepth 100000 in
set_option maxHeartbeats 2000000 in
theorem kOf_any (m : Msg) (w : World) : Calls Try.prog 33 #[.agg (msgA m)] w fun e w' => e = .returned (.agg #[.int .u64 (m.stamp : Int), .int .i64 m.frm]) ∧ Below w.heap.size w w' := by
  obtain ⟨a, b, c, d, e, f, g, h⟩ := m
  have hb := ba (ba (br w) (.cells #[.int .i64 a, .int .u32 (b : Int), .int .u64 (c : Int), .int .i64 d, .slice g e.length h, .string f] 37)) (.cells #[.int .u64 (c : Int), .int .i64 a] 56)
  show Calls Try.prog 33 #[.agg #[.int .i64 a, .int .u32 (b : Int), .int .u64 (c : Int), .int .i64 d, .slice g e.length h, .string f]] w _
  go_enter Try.func33, Try.ntmps33
  go_wp2
  refine bodyPost_ret (v := .agg #[.int .u64 (c : Int), .int .i64 a]) (by simp [results, Try.results33, go_sem]) rfl ⟨rfl, ?_⟩
  exact hb
set_option maxRecDepth 100000 in
set_option maxHeartbeats 2000000 in
theorem kLess_any (a b : Msg) (w : World) : Calls Try.prog 44 #[.agg (msgA a), .agg (msgA b)] w fun e w' => e = .returned (.int .i64 (keyZ a.stamp a.frm b.stamp b.frm)) ∧ Below w.heap.size w w' := by
  have hA := heap_alloc2_old w (.cells (msgA a) 37) (.cells (msgA b) 37)
  have hB := heap_alloc2_new w (.cells (msgA a) 37) (.cells (msgA b) 37)
  have hb := ba (ba (br w) (.cells (msgA a) 37)) (.cells (msgA b) 37)
  have HO1 := Lib.hid (fun (W : World) => kOf_any a W)
  have HO2 := Lib.hid (fun (W : World) => kOf_any b W)
  have HC := Lib.hid (fun (W : World) => kCmp_any a.stamp a.frm b.stamp b.frm W)
  obtain ⟨X, hX⟩ : ∃ X, X = msgA a := ⟨_, rfl⟩
  obtain ⟨Y, hY⟩ : ∃ Y, Y = msgA b := ⟨_, rfl⟩
  have hxl : X.toList.length = 6 := by rw [hX]; rfl
  have hyl : Y.toList.length = 6 := by rw [hY]; rfl
  rw [← hX] at hA hB hb HO1 ⊢
  rw [← hY] at hA hB hb HO2 ⊢
  have HXY := Lib.hid (And.intro hX hY)
  clear hX hY
  go_enter Try.func44, Try.ntmps44
  go_wp2_with fail
  generalize (w.alloc (.cells X 37)).alloc (.cells Y 37) = W at *
  have hrX := Bel.range (w := W) (b := w.heap.size) (o := 0) (cs := X.toList) (fun j u hu => (cell_of_row _ _ _ _ _ _ hA).trans (by simpa using hu)) (Array.getElem?_eq_some_iff.1 hA).1
  have hrY := Bel.range (w := W) (b := w.heap.size + 1) (o := 0) (cs := Y.toList) (fun j u hu => (cell_of_row _ _ _ _ _ _ hB).trans (by simpa using hu)) (Array.getElem?_eq_some_iff.1 hB).1
  have R1 := Lib.hid hrX
  have R2 := Lib.hid hrY
  have hXl : X.toList.toArray = X := by simp
  have hYl : Y.toList.toArray = Y := by simp
  clear hrX hrY hA hB
  refine wp_region_bel (by kernel_rfl) (by kernel_rfl) ?_
  repeat (first
    | (refine wpQuiet_load_mid rfl 37 (.tmp 2) rfl w.heap.size 0 rfl X.toList _ R1.out Try.underlying37 rfl (by rw [hxl]; kernel_rfl) ?_; go_simp)
    | (refine wpQuiet_load_mid rfl 37 (.tmp 3) rfl (w.heap.size + 1) 0 rfl Y.toList _ R2.out Try.underlying37 rfl (by rw [hyl]; kernel_rfl) ?_; go_simp)
    | go_big_quiet_step ((first | (go_at_call 33; exact bel_call (HO1.out _)) | (go_at_call 33; exact bel_call (HO2.out _)) | (go_at_call 29; exact bel_call (HC.out _)))))
  refine wpQuiet_nil ?_
  intro x5
  have hb5 := bt hb x5.prop
  generalize x5.val = w5 at *
  go_wp2
  go_ret
  exact ⟨rfl, hb5⟩
end Go.Proofs.Ytodlmboagbjcbaa
