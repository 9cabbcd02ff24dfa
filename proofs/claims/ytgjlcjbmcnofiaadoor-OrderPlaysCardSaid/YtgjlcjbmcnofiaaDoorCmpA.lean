/-
  The order of keys: what cmp.Compare, cmp.Or, the key's Compare, Of, the order of messages, and a copy of a slice of messages return.
  Conditions: none.
-/
import Derived.Test.YtgjlcjbmcnofiaaDoorRowM
import Derived.WalkLawsBesides
namespace Go.Proofs.YtgjlcjbmcnofiaaDoor
set_option linter.unusedVariables false
set_option linter.unusedSimpArgs false
open Go.RowKit
def cmpZ (a b : Int) : Int := if a < b then -1 else if b < a then 1 else 0
set_option maxRecDepth 100000 in
set_option maxHeartbeats 1000000 in
theorem nanU_any (a : Int) (w : World) : Calls Tryd.prog 68 #[.int .u64 a] w fun e w' => e = .returned (.bool false) ∧ w = w' := by
  go_enter Tryd.func68, Tryd.ntmps68
  go_wp2
  go_ret
  exact ⟨rfl, rfl⟩
set_option maxRecDepth 100000 in
set_option maxHeartbeats 1000000 in
theorem nanI_any (a : Int) (w : World) : Calls Tryd.prog 69 #[.int .i64 a] w fun e w' => e = .returned (.bool false) ∧ w = w' := by
  go_enter Tryd.func69, Tryd.ntmps69
  go_wp2
  go_ret
  exact ⟨rfl, rfl⟩
set_option maxRecDepth 100000 in
set_option maxHeartbeats 1000000 in
theorem cmpU_any (a b : Int) (w : World) : Calls Tryd.prog 41 #[.int .u64 a, .int .u64 b] w fun e w' => e = .returned (.int .i64 (cmpZ a b)) ∧ w = w' := by
  obtain ⟨v, hv⟩ : ∃ v, v = cmpZ a b := ⟨_, rfl⟩
  rw [← hv]
  go_enter Tryd.func41, Tryd.ntmps41
  go_wp2_with fail
  refine (nanU_any _ _).mono ?_
  rintro e w1 ⟨rfl, rfl⟩
  go_wp2_with fail
  refine (nanU_any _ _).mono ?_
  rintro e w1 ⟨rfl, rfl⟩
  by_cases h1 : a < b
  · obtain rfl : v = -1 := by rw [hv]; unfold cmpZ; rw [if_pos h1]
    have d1 : decide (a < b) = true := by simpa using h1
    clear hv h1
    go_wp2
    go_ret
    exact ⟨rfl, rfl⟩
  by_cases h2 : b < a
  · obtain rfl : v = 1 := by rw [hv]; unfold cmpZ; rw [if_neg h1, if_pos h2]
    have d1 : decide (a < b) = false := by simpa using h1
    have d2 : decide (b < a) = true := by simpa using h2
    clear hv h1 h2
    go_wp2
    go_ret
    exact ⟨rfl, rfl⟩
  obtain rfl : v = 0 := by rw [hv]; unfold cmpZ; rw [if_neg h1, if_neg h2]
  have d1 : decide (a < b) = false := by simpa using h1
  have d2 : decide (b < a) = false := by simpa using h2
  clear hv h1 h2
  go_wp2
  go_ret
  exact ⟨rfl, rfl⟩
set_option maxRecDepth 100000 in
set_option maxHeartbeats 1000000 in
theorem cmpI_any (a b : Int) (w : World) : Calls Tryd.prog 42 #[.int .i64 a, .int .i64 b] w fun e w' => e = .returned (.int .i64 (cmpZ a b)) ∧ w = w' := by
  obtain ⟨v, hv⟩ : ∃ v, v = cmpZ a b := ⟨_, rfl⟩
  rw [← hv]
  go_enter Tryd.func42, Tryd.ntmps42
  go_wp2_with fail
  refine (nanI_any _ _).mono ?_
  rintro e w1 ⟨rfl, rfl⟩
  go_wp2_with fail
  refine (nanI_any _ _).mono ?_
  rintro e w1 ⟨rfl, rfl⟩
  by_cases h1 : a < b
  · obtain rfl : v = -1 := by rw [hv]; unfold cmpZ; rw [if_pos h1]
    have d1 : decide (a < b) = true := by simpa using h1
    clear hv h1
    go_wp2
    go_ret
    exact ⟨rfl, rfl⟩
  by_cases h2 : b < a
  · obtain rfl : v = 1 := by rw [hv]; unfold cmpZ; rw [if_neg h1, if_pos h2]
    have d1 : decide (a < b) = false := by simpa using h1
    have d2 : decide (b < a) = true := by simpa using h2
    clear hv h1 h2
    go_wp2
    go_ret
    exact ⟨rfl, rfl⟩
  obtain rfl : v = 0 := by rw [hv]; unfold cmpZ; rw [if_neg h1, if_neg h2]
  have d1 : decide (a < b) = false := by simpa using h1
  have d2 : decide (b < a) = false := by simpa using h2
  clear hv h1 h2
  go_wp2
  go_ret
  exact ⟨rfl, rfl⟩
set_option maxRecDepth 100000 in
set_option maxHeartbeats 1000000 in
theorem or2_any (g : Nat) (a b : Int) (w : World) (h : w.heap[g]? = some (.cells #[.int .i64 a, .int .i64 b] 3)) : Calls Tryd.prog 40 #[.slice (some ⟨g, 0, none⟩) 2 2] w fun e w' => e = .returned (.int .i64 (if a = 0 then b else a)) ∧ w = w' := by
  have c0 : w.cell? ⟨g, 0, none⟩ = some (.int .i64 a) := cell_of_row _ _ 0 _ _ _ h
  have c1 : w.cell? ⟨g, 1, none⟩ = some (.int .i64 b) := cell_of_row _ _ 1 _ _ _ h
  obtain ⟨v, hv⟩ : ∃ v, v = if a = 0 then b else a := ⟨_, rfl⟩
  rw [← hv]
  have HV := Lib.hid hv
  clear hv h
  go_enter Tryd.func40, Tryd.ntmps40
  go_wp2
  go_loop [5, 8] (fun _ i => ∃ k : Nat, k ≤ 2 ∧ i = .int .i64 (k : Int) ∧ (0 < k → a = 0) ∧ (1 < k → b = 0)) (fun _ i => 2 - (intOf i).toNat)
  case atStart => exact ⟨0, by omega, rfl, by omega, by omega⟩
  case round =>
    obtain ⟨k, hk, rfl, h0, h1⟩ := hrel
    by_cases k0 : k = 0
    · subst k0
      by_cases ha : a = 0
      · subst ha
        go_wp2
        exact ⟨⟨1, by omega, by go_num, by simp, by simp⟩, by simp [intOf]⟩
      · have d1 : (a == 0) = false := by simpa using ha
        have d1' : (a != 0) = true := by simpa using ha
        obtain rfl : v = a := by rw [HV.out, if_neg ha]
        clear h0 h1
        go_wp2
        go_ret
        exact ⟨rfl, rfl⟩
    by_cases k1 : k = 1
    · subst k1
      have ha := h0 (by omega)
      subst ha
      by_cases hb : b = 0
      · subst hb
        go_wp2
        exact ⟨⟨2, by omega, by go_num, by simp, by simp⟩, by simp [intOf]⟩
      · have d1 : (b == 0) = false := by simpa using hb
        have d1' : (b != 0) = true := by simpa using hb
        obtain rfl : v = b := by rw [HV.out, if_pos rfl]
        clear h0 h1
        go_wp2
        go_ret
        exact ⟨rfl, rfl⟩
    · obtain rfl : k = 2 := by omega
      have ha := h0 (by omega)
      have hb := h1 (by omega)
      subst ha
      subst hb
      obtain rfl : v = 0 := by rw [HV.out, if_pos rfl]
      clear h0 h1
      go_wp2
      go_ret
      exact ⟨rfl, rfl⟩
def keyZ (a1 a2 b1 b2 : Int) : Int := if cmpZ a1 b1 = 0 then cmpZ a2 b2 else cmpZ a1 b1
set_option maxRecDepth 100000 in
set_option maxHeartbeats 1000000 in
theorem kCmp_any (a1 a2 b1 b2 : Int) (w : World) : Calls Tryd.prog 13 #[.agg #[.int .u64 a1, .int .i64 a2], .agg #[.int .u64 b1, .int .i64 b2]] w fun e w' => e = .returned (.int .i64 (keyZ a1 a2 b1 b2)) ∧ Below w.heap.size w w' := by
  have hA := heap_alloc2_old w (.cells #[.int .u64 a1, .int .i64 a2] 38) (.cells #[.int .u64 b1, .int .i64 b2] 38)
  have hB := heap_alloc2_new w (.cells #[.int .u64 a1, .int .i64 a2] 38) (.cells #[.int .u64 b1, .int .i64 b2] 38)
  have hb := ba (ba (br w) (.cells #[.int .u64 a1, .int .i64 a2] 38)) (.cells #[.int .u64 b1, .int .i64 b2] 38)
  have HU := Lib.hid (fun (W : World) => cmpU_any a1 b1 W)
  have HI := Lib.hid (fun (W : World) => cmpI_any a2 b2 W)
  have HO := Lib.hid (fun (g : Nat) (W : World) (h : W.heap[g]? = some (.cells #[.int .i64 (cmpZ a1 b1), .int .i64 (cmpZ a2 b2)] 3)) => or2_any g (cmpZ a1 b1) (cmpZ a2 b2) W h)
  unfold keyZ
  generalize cmpZ a1 b1 = x at *
  generalize cmpZ a2 b2 = y at *
  obtain ⟨v, hv⟩ : ∃ v, v = if x = 0 then y else x := ⟨_, rfl⟩
  rw [← hv] at HO ⊢
  clear hv
  go_enter Tryd.func13, Tryd.ntmps13
  go_wp2_with fail
  generalize (w.alloc (.cells #[.int .u64 a1, .int .i64 a2] 38)).alloc (.cells #[.int .u64 b1, .int .i64 b2] 38) = W at *
  have a0 := Bel.cell (cell_of_row _ _ 0 _ _ _ hA : W.cell? ⟨w.heap.size, 0, none⟩ = some (.int .u64 a1)) (Array.getElem?_eq_some_iff.1 hA).1
  have a1' := Bel.cell (cell_of_row _ _ 1 _ _ _ hA : W.cell? ⟨w.heap.size, 1, none⟩ = some (.int .i64 a2)) (Array.getElem?_eq_some_iff.1 hA).1
  have b0 := Bel.cell (cell_of_row _ _ 0 _ _ _ hB : W.cell? ⟨w.heap.size + 1, 0, none⟩ = some (.int .u64 b1)) (Array.getElem?_eq_some_iff.1 hB).1
  have b1' := Bel.cell (cell_of_row _ _ 1 _ _ _ hB : W.cell? ⟨w.heap.size + 1, 1, none⟩ = some (.int .i64 b2)) (Array.getElem?_eq_some_iff.1 hB).1
  refine wp_region_bel_tail 10 (by kernel_rfl) (by kernel_rfl) ?_
  simp only [List.take_succ_cons, List.take_zero, List.drop_succ_cons, List.drop_zero]
  repeat (go_big_quiet_step ((first | (go_at_call 41; exact bel_same (HU.out _)) | (go_at_call 42; exact bel_same (HI.out _)))))
  refine wpQuiet_nil ?_
  intro w5 hw5
  obtain ⟨x5, rfl⟩ := hw5
  have hb5 := bt hb x5.prop
  generalize x5.val = w5 at *
  clear a0 a1' b0 b1' hA hB hb
  have hn := heap_alloc_new w5 (.cells #[.int .i64 x, .int .i64 y] 3)
  have hb6 := ba hb5 (.cells #[.int .i64 x, .int .i64 y] 3)
  go_wp2_with fail
  refine (HO.out _ _ hn).mono ?_
  rintro e w6 ⟨rfl, rfl⟩
  go_wp2
  go_ret
  exact ⟨rfl, hb6⟩
def keyLt (p q : Int × Int) : Prop := p.1 < q.1 ∨ (p.1 = q.1 ∧ p.2 < q.2)
theorem cmpZ_vals (a b : Int) : (cmpZ a b = -1 ∧ a < b) ∨ (cmpZ a b = 0 ∧ a = b) ∨ (cmpZ a b = 1 ∧ b < a) := by
  unfold cmpZ
  by_cases h1 : a < b
  · exact .inl ⟨if_pos h1, h1⟩
  · by_cases h2 : b < a
    · exact .inr (.inr ⟨by rw [if_neg h1, if_pos h2], h2⟩)
    · exact .inr (.inl ⟨by rw [if_neg h1, if_neg h2], by omega⟩)
theorem keyZ_vals (a1 a2 b1 b2 : Int) : (keyZ a1 a2 b1 b2 = -1 ∧ keyLt (a1, a2) (b1, b2)) ∨ (keyZ a1 a2 b1 b2 = 0 ∧ a1 = b1 ∧ a2 = b2) ∨ (keyZ a1 a2 b1 b2 = 1 ∧ keyLt (b1, b2) (a1, a2)) := by
  unfold keyZ keyLt
  rcases cmpZ_vals a1 b1 with ⟨e, h⟩ | ⟨e, h⟩ | ⟨e, h⟩
  · rw [e]; exact .inl ⟨rfl, .inl h⟩
  · rw [e, if_pos rfl]
    rcases cmpZ_vals a2 b2 with ⟨e2, h2⟩ | ⟨e2, h2⟩ | ⟨e2, h2⟩
    · exact .inl ⟨e2, .inr ⟨h, h2⟩⟩
    · exact .inr (.inl ⟨e2, h, h2⟩)
    · exact .inr (.inr ⟨e2, .inr ⟨h.symm, h2⟩⟩)
  · rw [e]; exact .inr (.inr ⟨rfl, .inl h⟩)
theorem keyZ_pos (p q : Int × Int) : 0 < keyZ p.1 p.2 q.1 q.2 ↔ keyLt q p := by
  rcases keyZ_vals p.1 p.2 q.1 q.2 with ⟨e, h⟩ | ⟨e, h1, h2⟩ | ⟨e, h⟩
  · unfold keyLt at *; rw [e]; simp only at h; constructor
    · intro h; omega
    · intro h; omega
  · unfold keyLt; rw [e]; constructor
    · intro h; omega
    · intro h; omega
  · unfold keyLt at *; rw [e]; simp only at h; constructor
    · intro _; exact h
    · intro _; omega
set_option maxRecDepth 100000 in
set_option maxHeartbeats 2000000 in
theorem kClone_any (l : List Msg) (p : Addr) (cap : Nat) (w : World) (h : Reads w w.heap.size 6 (some p) l.length (rowsM l)) (hl : l.length ≤ 1000) : Calls Tryd.prog 78 #[.slice (some p) l.length cap] w fun e w' => ∃ v, e = .returned v ∧ w'.ownsRow w.heap.size 42 6 v l.length (rowsM l) ∧ Below w.heap.size w w' := by
  obtain ⟨i0, hi, hz0, hz1, hz2⟩ := info_parts info42
  have hb := ba (br w) (.cells #[] 42)
  have own1 := ownNil w w.heap.size 42 6 (Nat.le_refl _)
  have HR := Lib.hid (h.below hb)
  have H1 := Lib.hid (And.intro own1 hb)
  have hone := rowsM_one l
  have hnil : ∀ W : World, (Go.binOp .eql 27 (.slice (some p) l.length cap) (.slice none 0 0)).run Tryd.prog W = .ok (.bool false) W := fun W => Lib.run_eql_slice_nil W 27 42 (some p) l.length cap 0 0 Tryd.underlying27
  clear h own1 hb
  go_enter Tryd.func78, Tryd.ntmps78
  go_wp2_with (at_builtin; refine wpList_append_any _ rfl (.tmp 5) (.tmp 6) 27 rfl w.heap.size 42 i0 _ 6 72 Tryd.underlying27 hi hz0 hz1 hz2 rfl (by decide) _ 0 [] rfl H1.out.1 w.heap.size _ l.length _ (rowsM l) rfl HR.out hone ?c3 ?c4 ?c5 ?_)
  case c3 => unfold maxLen; omega
  case c4 => omega
  case c5 => simp
  intro v6 w6 ho6 hg6 hu6
  have hb6 := grownB H1.out.2 H1.out.2.size hg6 (fun b hb => (H1.out.1.lt b hb).1)
  go_wp2
  go_ret
  exact ⟨_, rfl, ho6, hb6⟩
set_option maxRecDepth 100000 in
set_option maxHeartbeats 2000000 in
theorem kOf_any (m : Msg) (w : World) : Calls Tryd.prog 14 #[.agg (msgA m)] w fun e w' => e = .returned (.agg #[.int .u64 (m.stamp : Int), .int .i64 m.frm]) ∧ Below w.heap.size w w' := by
  obtain ⟨a, b, c, d, e, f, g, h⟩ := m
  have hb := ba (ba (br w) (.cells #[.int .i64 a, .int .u32 (b : Int), .int .u64 (c : Int), .int .i64 d, .slice g e.length h, .string f] 42)) (.cells #[.int .u64 (c : Int), .int .i64 a] 38)
  show Calls Tryd.prog 14 #[.agg #[.int .i64 a, .int .u32 (b : Int), .int .u64 (c : Int), .int .i64 d, .slice g e.length h, .string f]] w _
  go_enter Tryd.func14, Tryd.ntmps14
  go_wp2
  refine bodyPost_ret (v := .agg #[.int .u64 (c : Int), .int .i64 a]) (by simp [results, Tryd.results14, go_sem]) rfl ⟨rfl, ?_⟩
  exact hb
set_option maxRecDepth 100000 in
set_option maxHeartbeats 2000000 in
theorem kLess_any (a b : Msg) (w : World) : Calls Tryd.prog 94 #[.agg (msgA a), .agg (msgA b)] w fun e w' => e = .returned (.int .i64 (keyZ a.stamp a.frm b.stamp b.frm)) ∧ Below w.heap.size w w' := by
  have hA := heap_alloc2_old w (.cells (msgA a) 42) (.cells (msgA b) 42)
  have hB := heap_alloc2_new w (.cells (msgA a) 42) (.cells (msgA b) 42)
  have hb := ba (ba (br w) (.cells (msgA a) 42)) (.cells (msgA b) 42)
  have HO1 := Lib.hid (fun (W : World) => kOf_any a W)
  have HO2 := Lib.hid (fun (W : World) => kOf_any b W)
  have HC := Lib.hid (fun (W : World) => kCmp_any a.stamp a.frm b.stamp b.frm W)
  obtain ⟨X, hX⟩ : ∃ X, X = msgA a := ⟨_, rfl⟩
  obtain ⟨Y, hY⟩ : ∃ Y, Y = msgA b := ⟨_, rfl⟩
  have hxl : X.toList.length = 6 := by rw [hX]; rfl
  have hyl : Y.toList.length = 6 := by rw [hY]; rfl
  rw [← hX] at hA hB hb HO1 ⊢
  rw [← hY] at hA hB hb HO2 ⊢
  have HXY := Lib.hid (And.intro hX hY)
  clear hX hY
  go_enter Tryd.func94, Tryd.ntmps94
  go_wp2_with fail
  generalize (w.alloc (.cells X 42)).alloc (.cells Y 42) = W at *
  have hrX := Bel.range (w := W) (b := w.heap.size) (o := 0) (cs := X.toList) (fun j u hu => (cell_of_row _ _ _ _ _ _ hA).trans (by simpa using hu)) (Array.getElem?_eq_some_iff.1 hA).1
  have hrY := Bel.range (w := W) (b := w.heap.size + 1) (o := 0) (cs := Y.toList) (fun j u hu => (cell_of_row _ _ _ _ _ _ hB).trans (by simpa using hu)) (Array.getElem?_eq_some_iff.1 hB).1
  have R1 := Lib.hid hrX
  have R2 := Lib.hid hrY
  have hXl : X.toList.toArray = X := by simp
  have hYl : Y.toList.toArray = Y := by simp
  clear hrX hrY hA hB
  refine wp_region_bel (by kernel_rfl) (by kernel_rfl) ?_
  repeat (first
    | (refine wpQuiet_load_mid rfl 42 (.tmp 2) rfl w.heap.size 0 rfl X.toList _ R1.out Tryd.underlying42 rfl (by rw [hxl]; kernel_rfl) ?_; go_simp)
    | (refine wpQuiet_load_mid rfl 42 (.tmp 3) rfl (w.heap.size + 1) 0 rfl Y.toList _ R2.out Tryd.underlying42 rfl (by rw [hyl]; kernel_rfl) ?_; go_simp)
    | go_big_quiet_step ((first | (go_at_call 14; exact bel_call (HO1.out _)) | (go_at_call 14; exact bel_call (HO2.out _)) | (go_at_call 13; exact bel_call (HC.out _)))))
  refine wpQuiet_nil ?_
  intro x5
  have hb5 := bt hb x5.prop
  generalize x5.val = w5 at *
  go_wp2
  go_ret
  exact ⟨rfl, hb5⟩
theorem keptSetCells (g : Nat) : ∀ (vs : List Value) (o : Nat) (w : World), Kept (fun q => q = g) w (w.setCells g o vs)
  | [], o, w => .of_below (br w)
  | v :: vs, o, w => ((show Kept (fun q => q = g) w w from Kept.of_below (br w)).setCell (p := ⟨g, o, none⟩) rfl v).trans (keptSetCells g vs (o + 1) _)
theorem keptSet {g : Nat} {w w' : World} (h : Kept (fun q => q = g) w w') (o : Nat) (u : Value) : Kept (fun q => q = g) w (w'.setCell ⟨g, o, none⟩ u) := h.setCell (p := ⟨g, o, none⟩) rfl u
end Go.Proofs.YtgjlcjbmcnofiaaDoor
