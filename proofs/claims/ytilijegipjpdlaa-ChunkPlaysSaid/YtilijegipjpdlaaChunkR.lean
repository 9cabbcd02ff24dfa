/-
  What the reference's Take returns.
  Conditions: none.
-/
import Derived.Test.YtilijegipjpdlaaChunkQ
import Derived.Test.YtilijegipjpdlaaBuild
namespace Go.Proofs.Ytilijegipjpdlaa
set_option linter.unusedVariables false
set_option linter.unusedSimpArgs false
open Go.RowKit IM
theorem LogsAt.reads {w : World} {ad : Option Addr} {cap : Nat} {I : List ItemV} (h : LogsAt w (.slice ad I.length cap) I) : Reads w w.heap.size 18 ad I.length (rowsI I) := by
  obtain ⟨ad', cap', e, hl, h⟩ := h
  injection e with e1 e2 e3
  subst e1
  refine ⟨rowsI_length I, fun hn => ?_⟩
  obtain ⟨B, O, rfl, hB, _⟩ := h 0 hn
  refine ⟨_, rfl, hB, fun j u hu => ?_⟩
  have hj : j < I.length * 18 := by
    have := (List.getElem?_eq_some_iff.1 hu).1
    rwa [rowsI_length] at this
  have hd : j / 18 < I.length := by omega
  obtain ⟨B', O', e, _, hr, _⟩ := h (j / 18) hd
  injection e with e
  injection e with e1 e2
  subst e1 e2
  have hm : j / 18 * 18 + j % 18 = j := by omega
  rw [← hm, rowsI_get I (j / 18) hd (j % 18) (by omega)] at hu
  have := hr (j % 18) u hu
  rw [← this]
  congr 1
  unfold Addr.add
  split
  · simp; try omega
  · simp; try omega
theorem LogsAt.of_own {w : World} {base : Nat} {e : TypeId} {v : Value} {I : List ItemV} (h : w.ownsRow base e 18 v I.length (rowsI I)) (h0 : 0 < I.length) (hl : I.length ≤ 9223372036854775807) (hf : ∀ i (hi : i < I.length), I[i].data.size ≤ 9223372036854775807 ∧ I[i].number < 18446744073709551616) : LogsAt w v I := by
  obtain ⟨g, cap, rfl, hg0, hg1⟩ := h.form h0
  refine ⟨_, cap, rfl, hl, fun i hi => ⟨g, 0, rfl, hg1, fun j u hu => ?_, hf i hi⟩⟩
  have hj : j < 18 := (List.getElem?_eq_some_iff.1 hu).1
  have := h.cells (g := g) rfl (i * 18 + j) u (by rw [rowsI_get I i hi j hj]; exact hu)
  rw [← this]
  congr 1
  unfold Addr.add
  split
  · simp; try omega
  · simp
theorem itemA_one (x : ItemV) : ∀ u ∈ (itemA x).toList, u.oneCell' = true := by
  intro u hu
  simp [itemA] at hu
  rcases hu with rfl | rfl | rfl | rfl | rfl | rfl | rfl | rfl | rfl | rfl | rfl | rfl | rfl | rfl | rfl | rfl | rfl | rfl <;> rfl
theorem rowsI_one (I : List ItemV) : ∀ u ∈ rowsI I, u.oneCell' = true := by
  intro u hu
  unfold rowsI at hu
  obtain ⟨x, _, hx⟩ := List.mem_flatMap.1 hu
  exact itemA_one x u hx
theorem rowsI_snoc (I : List ItemV) (x : ItemV) : rowsI (I ++ [x]) = rowsI I ++ (itemA x).toList := by unfold rowsI; simp
theorem alloc3 (w : World) (A B C : Obj) : (((w.alloc A).alloc B).alloc C).heap[w.heap.size]? = some A ∧ (((w.alloc A).alloc B).alloc C).heap[w.heap.size + 1]? = some B ∧ (((w.alloc A).alloc B).alloc C).heap[w.heap.size + 1 + 1]? = some C := by
  have h0 := heap_alloc2_old w A B
  have h1 := heap_alloc2_new w A B
  have h2 := heap_alloc_new ((w.alloc A).alloc B) C
  refine ⟨(Below.heap_alloc _ C _ (Array.getElem?_eq_some_iff.1 h0).1).trans h0, (Below.heap_alloc _ C _ (Array.getElem?_eq_some_iff.1 h1).1).trans h1, ?_⟩
  simpa using h2
theorem ownE1 (w : World) (base : Nat) (e : TypeId) (h : base ≤ w.heap.size) : (w.alloc (.cells #[] e)).drew.ownsRow base e 18 (.slice (some ⟨w.heap.size, 0, none⟩) 0 0) 0 [] :=
  (World.ownsRow_made w #[] 0 h (by decide) rfl).drew
theorem ownE2 (w : World) (base : Nat) (e : TypeId) (o : Obj) (h : base ≤ w.heap.size) : ((w.alloc (.cells #[] e)).alloc o).drew.ownsRow base e 18 (.slice (some ⟨w.heap.size, 0, none⟩) 0 0) 0 [] :=
  ((World.ownsRow_made w #[] 0 h (by decide) rfl).alloc o).drew
theorem ownE3 (w : World) (base : Nat) (e : TypeId) (o : Obj) (h : base ≤ w.heap.size) : ((w.alloc o).alloc (.cells #[] e)).drew.ownsRow base e 18 (.slice (some ⟨w.heap.size + 1, 0, none⟩) 0 0) 0 [] := by
  have := (World.ownsRow_made (base := base) (e := e) (size := 18) (w.alloc o) #[] 0 (by simp; omega) (by decide) rfl).drew
  simpa using this
def takeI (n : Nat) (t : Int) (I : List ItemV) (x : ItemV) : List ItemV := if countC n t (pairsI I) x = true then I ++ [x] else I
theorem pairs_take (n : Nat) (t : Int) (I : List ItemV) (x : ItemV) : pairsI (takeI n t I x) = takeL n t (pairsI I) x := by
  unfold takeI takeL
  split
  · unfold pairsI; simp
  · rfl
def RefTakePost (w : World) (n : Nat) (u : Value) (t : Int) (I : List ItemV) (x : ItemV) (e : Ending) (w' : World) : Prop := ∃ v, (v = u ∨ ∀ p m c, v = .slice (some p) m c → w.heap.size ≤ p.block ∧ p.block < w'.heap.size) ∧ e = .returned (.tuple #[.agg #[.int .u64 (n : Int), v], .bool (takeB n t (pairsI I) x)]) ∧ LogsAt w' v (takeI n t I x) ∧ Below w.heap.size w w'
set_option maxRecDepth 100000 in
set_option maxHeartbeats 4000000 in
theorem refTake_in (n : Nat) (v : Value) (I : List ItemV) (t : Int) (x : ItemV) (w : World) (h : LogsAt w v I) (hg : GoodC t (pairsI I)) (ht : ∀ hI : 0 < I.length, I[0].total = t) (hb : SmallC (pairsI (I ++ [x]))) (hxb : x.data.size ≤ 9223372036854775807) (hxn : x.number < 18446744073709551616)
    (hc : countC n t (pairsI I) x = true) :
    Calls Try.prog 15 #[.agg #[.int .u64 (n : Int), v], .agg (itemA x)] w (RefTakePost w n v t I x) := by
  obtain ⟨i0, hi, hz0, hz1, hz2⟩ := info_parts info38
  obtain ⟨ad, cap, rfl, hl, hr⟩ := id h
  have hlen := hg.len.2
  have hpl : (pairsI I).length = I.length := by unfold pairsI; simp
  rw [hpl] at hlen
  have hc0 := hc
  unfold countC at hc0
  simp only [Bool.and_eq_true, decide_eq_true_eq, Bool.not_eq_true'] at hc0
  obtain ⟨⟨h1, h2, h3, h4, h5, h6, h7⟩, h8⟩ := hc0
  rw [pairs_has] at h8
  have d1 : (x.kind == 4) = true := by simpa using h1
  have d1' : (x.kind != 4) = false := by simpa using h1
  have d2 : ((x.number : Int) == (n : Int)) = true := by simp; omega
  have d2' : ((x.number : Int) != (n : Int)) = false := by simp; omega
  have d3 : decide (x.total < 1) = false := by simp; omega
  have d4 : decide (16 < x.total) = false := by simp; omega
  have d5 : decide (x.index < 0) = false := by simp; omega
  have d6 : decide (x.total ≤ x.index) = false := by simp; omega
  have hfind : ∀ (W : World), Below w.heap.size w W → Calls Try.prog 20 #[.agg #[.int .u64 (n : Int), .slice ad I.length cap], .int .i64 x.index] W fun e w' => e = .returned (.tuple #[.string ⟨#[]⟩, .bool false]) ∧ Below W.heap.size W w' := fun W hbW => by
    have := refFind_any n _ I x.index W (h.below hbW)
    rw [h8] at this
    have hn : findI I x.index = none := by simpa using h8
    rw [hn] at this
    exact this
  have htake := pairs_take n t I x
  have hgood := hg.take (n := n) x
  rw [← htake] at hgood
  have hI' : takeI n t I x = I ++ [x] := by unfold takeI; rw [if_pos hc]
  have hT' : takeT n t (pairsI I) x = x.total := by unfold takeT; rw [if_pos hc]
  have hB' : takeB n t (pairsI I) x = fullC x.total (pairsI (I ++ [x])) := by
    unfold takeB fullC
    rw [hc]
    unfold pairsI
    simp
  unfold RefTakePost
  rw [hI', hB']
  rw [hI', hT'] at hgood
  have hwhole : ∀ (W : World) (v' : Value), LogsAt W v' (I ++ [x]) → Calls Try.prog 16 #[.agg #[.int .u64 (n : Int), v']] W fun e w' => e = .returned (.tuple #[.string (wholeC x.total (pairsI (I ++ [x]))), .bool (fullC x.total (pairsI (I ++ [x])))]) ∧ Below W.heap.size W w' := fun W v' hv' => by
    refine refWhole_any n v' (I ++ [x]) x.total W hv' hgood ?_ hb
    · intro hI
      cases I with
      | nil => rfl
      | cons y I =>
        have := ht (by simp)
        rcases h7 with h7 | h7
        · simp [pairsI] at h7
        · simp at this ⊢
          omega
  have hlogs : ∀ (W : World) (v' : Value), W.ownsRow w.heap.size 38 18 v' (I.length + 1) (rowsI I ++ (itemA x).toList) → LogsAt W v' (I ++ [x]) := fun W v' hown => by
    rw [← rowsI_snoc, show I.length + 1 = (I ++ [x]).length from by simp] at hown
    refine LogsAt.of_own hown (by simp) (by simp; omega) ?_
    intro i hi
    by_cases hlt : i < I.length
    · rw [List.getElem_append_left hlt]
      obtain ⟨_, _, _, _, _, hf⟩ := hr i hlt
      exact hf
    · rw [List.getElem_append_right (by omega)]
      simp
      exact ⟨by omega, hxn⟩
  have hfirst : (I.length = 0) ∨ (0 < I.length ∧ ∃ B O, ad = some ⟨B, O, none⟩ ∧ B < w.heap.size ∧ w.cell? ⟨B, O + 17, none⟩ = some (.int .i64 x.total)) := by
    rcases Nat.eq_zero_or_pos I.length with h0 | h0
    · exact .inl h0
    · obtain ⟨B, O, e, hB, hrr, _⟩ := hr 0 h0
      refine .inr ⟨h0, B, O, e, hB, ?_⟩
      have := hrr 17 _ rfl
      rw [Nat.zero_mul, Nat.add_zero] at this
      rw [this]
      show some (Value.int .i64 I[0].total) = _
      rw [ht h0]
      rcases h7 with h7 | h7
      · have : (pairsI I).length = 0 := by rw [h7]; rfl
        omega
      · rw [h7]
  have HH := Lib.hid (And.intro hfind (And.intro hwhole (And.intro hlogs h.reads)))
  generalize fullC x.total (pairsI (I ++ [x])) = F at *
  generalize wholeC x.total (pairsI (I ++ [x])) = Wh at *
  clear hfind hwhole hlogs hgood htake hI' hT' hB' h1 h2 h3 h4 h5 h6 h7 h8 hc hr ht hg hb hpl h
  have hx1 := itemA_one x
  have hxl : (itemA x).toList.length = 18 := rfl
  have k0 : (itemA x)[0]? = some (.int .i64 x.kind) := rfl
  have k15 : (itemA x)[15]? = some (.int .u64 (x.number : Int)) := rfl
  have k16 : (itemA x)[16]? = some (.int .i64 x.index) := rfl
  have k17 : (itemA x)[17]? = some (.int .i64 x.total) := rfl
  obtain ⟨X, hX⟩ : ∃ X, X = itemA x := ⟨_, rfl⟩
  have hXl : X.toList.toArray = X := by simp
  rw [← hX] at HH hx1 hxl k0 k15 k16 k17 ⊢
  have HX := Lib.hid hX
  clear hX
  obtain ⟨f0, f1, f2⟩ := alloc3 w (.cells #[.int .u64 (n : Int), .slice ad I.length cap] 54) (.cells X 38) (.cells #[.int .u64 0, .slice none 0 0] 54)
  have fb := ba (ba (ba (br w) (.cells #[.int .u64 (n : Int), .slice ad I.length cap] 54)) (.cells X 38)) (.cells #[.int .u64 0, .slice none 0 0] 54)
  have FF := Lib.hid (And.intro f0 (And.intro f1 (And.intro f2 fb)))
  clear f0 f1 f2 fb
  go_enter Try.func15, Try.ntmps15
  go_upto_region 1 with (fail)
  generalize ((w.alloc (.cells #[.int .u64 (n : Int), .slice ad I.length cap] 54)).alloc (.cells X 38)).alloc (.cells #[.int .u64 0, .slice none 0 0] 54) = W at *
  have a0 : W.cell? ⟨w.heap.size, 0, none⟩ = some (.int .u64 (n : Int)) := cell_of_row _ _ 0 _ _ _ FF.out.1
  have a1 : W.cell? ⟨w.heap.size, 1, none⟩ = some (.slice ad I.length cap) := cell_of_row _ _ 1 _ _ _ FF.out.1
  have b0 : W.cell? ⟨w.heap.size + 1, 0, none⟩ = some (.int .i64 x.kind) := (cell_of_row _ _ 0 _ _ _ FF.out.2.1).trans k0
  have b15 : W.cell? ⟨w.heap.size + 1, 15, none⟩ = some (.int .u64 (x.number : Int)) := (cell_of_row _ _ 15 _ _ _ FF.out.2.1).trans k15
  have b16 : W.cell? ⟨w.heap.size + 1, 16, none⟩ = some (.int .i64 x.index) := (cell_of_row _ _ 16 _ _ _ FF.out.2.1).trans k16
  have b17 : W.cell? ⟨w.heap.size + 1, 17, none⟩ = some (.int .i64 x.total) := (cell_of_row _ _ 17 _ _ _ FF.out.2.1).trans k17
  clear k0 k15 k16 k17
  go_upto_region 3 with (fail)
  go_cut [56] (fun s47 wx => s47 = .bool false ∧ ∃ nq, W.drewN nq = wx)
  case first =>
    rcases hfirst with h0 | ⟨h0, B, O, rfl, hB, c17⟩
    · have e0 : decide ((0 : Int) < (I.length : Int)) = false := by rw [h0]; rfl
      have e0' : decide (0 < I.length) = false := by rw [h0]; rfl
      clear h0
      go_quiet (fail)
      go_wp2
      go_meet
      exact ⟨rfl, _, rfl⟩
    · have e0 : decide ((0 : Int) < (I.length : Int)) = true := by simp; omega
      have e0' : decide (0 < I.length) = true := by simp; omega
      have e1 : (0 : Int) < (I.length : Int) := by omega
      have c17' : W.cell? ⟨B, O + 17, none⟩ = some (.int .i64 x.total) := (FF.out.2.2.2.cell (p := ⟨B, O + 17, none⟩) hB).trans c17
      clear h0 c17
      go_quiet (fail)
      go_wp2
      go_meet
      exact ⟨rfl, _, rfl⟩
  case rest =>
    obtain ⟨rfl, nq, rfl⟩ := hcut
    clear b0 b15 d1 d1' d2 d2' d3 d4 d5 d6 hfirst
    go_wp2_with fail
    refine (HH.out.1 _ (bn FF.out.2.2.2 _)).mono ?_
    rintro e w5 ⟨rfl, hb5⟩
    replace hb5 : Below W.heap.size W w5 := ⟨hb5.os, hb5.tape, hb5.output, hb5.size, hb5.block⟩
    clear a0 a1 b16 b17
    have g0 := (hb5.block _ (Array.getElem?_eq_some_iff.1 FF.out.1).1).trans FF.out.1
    have g1 := (hb5.block _ (Array.getElem?_eq_some_iff.1 FF.out.2.1).1).trans FF.out.2.1
    have g2 := (hb5.block _ (Array.getElem?_eq_some_iff.1 FF.out.2.2.1).1).trans FF.out.2.2.1
    have hbw5 : Below w.heap.size w w5 := bt FF.out.2.2.2 hb5
    have GG := Lib.hid (And.intro g0 (And.intro g1 (And.intro g2 hbw5)))
    have hS : ∀ w', Below w5.heap.size w5 w' → w'.cell? ⟨w.heap.size, 1, none⟩ = some (.slice ad I.length cap) ∧ w'.rangeAt (w.heap.size + 1) 0 X.toList := by
      intro w' hb
      have e0 := (hb.block _ (Array.getElem?_eq_some_iff.1 g0).1).trans g0
      have e1 := (hb.block _ (Array.getElem?_eq_some_iff.1 g1).1).trans g1
      exact ⟨cell_of_row _ _ 1 _ _ _ e0, fun j u hu => (cell_of_row _ _ _ _ _ _ e1).trans (by simpa using hu)⟩
    have HS := Lib.hid hS
    clear hS g0 g1 g2 hb5 hbw5
    go_wp2_with fail
    go_cut [] (fun wx => ∃ v8, wx.heap[w.heap.size]? = some (.cells #[.int .u64 (n : Int), v8] 54) ∧ wx.heap[w.heap.size + 1 + 1]? = some (.cells #[.int .u64 0, .slice none 0 0] 54) ∧ wx.ownsRow (w.heap.size + 3) 38 18 v8 (I.length + 1) (rowsI I ++ X.toList) ∧ Below w.heap.size w wx)
    case rest =>
      obtain ⟨v8, q0, q1, q2, q3⟩ := hcut
      have hz := q3.size
      have a0 : wc.cell? ⟨w.heap.size, 0, none⟩ = some (.int .u64 (n : Int)) := cell_of_row _ _ 0 _ _ _ q0
      have a1 : wc.cell? ⟨w.heap.size, 1, none⟩ = some v8 := cell_of_row _ _ 1 _ _ _ q0
      have QQ := Lib.hid (And.intro q0 (And.intro q1 (And.intro q2 q3)))
      clear q0 q1 q2 q3
      go_wp2_with fail
      refine (HH.out.2.1 _ v8 (HH.out.2.2.1 _ _ (ownMore QQ.out.2.2.1 (by omega)))).mono ?_
      rintro e w9 ⟨rfl, hb9⟩
      have e0 := (hb9.block _ (Array.getElem?_eq_some_iff.1 QQ.out.1).1).trans QQ.out.1
      have e1 := (hb9.block _ (Array.getElem?_eq_some_iff.1 QQ.out.2.1).1).trans QQ.out.2.1
      clear a0 a1
      have a0 : w9.cell? ⟨w.heap.size, 0, none⟩ = some (.int .u64 (n : Int)) := cell_of_row _ _ 0 _ _ _ e0
      have a1 : w9.cell? ⟨w.heap.size, 1, none⟩ = some v8 := cell_of_row _ _ 1 _ _ _ e0
      have b0 : w9.cell? ⟨w.heap.size + 1 + 1, 0, none⟩ = some (.int .u64 0) := cell_of_row _ _ 0 _ _ _ e1
      have b1 : w9.cell? ⟨w.heap.size + 1 + 1, 1, none⟩ = some (.slice none 0 0) := cell_of_row _ _ 1 _ _ _ e1
      have f0 : w9.frozen? ⟨w.heap.size + 1 + 1, 0, none⟩ = false := frozen_of_row _ _ _ _ _ e1
      have f1 : w9.frozen? ⟨w.heap.size + 1 + 1, 1, none⟩ = false := frozen_of_row _ _ _ _ _ e1
      have E9 := Lib.hid (And.intro e1 hb9)
      clear e0 e1 hb9
      obtain ⟨ad8, cap8, rfl⟩ := ownForm QQ.out.2.2.1
      go_wp2
      have kk := setCell_block (setCell_block E9.out.1 0 (.int .u64 (n : Int))) 1 (.slice ad8 (I.length + 1) cap8)
      have r0 : ((w9.setCell ⟨w.heap.size + 1 + 1, 0, none⟩ (.int .u64 (n : Int))).setCell ⟨w.heap.size + 1 + 1, 1, none⟩ (.slice ad8 (I.length + 1) cap8)).cell? ⟨w.heap.size + 1 + 1, 0, none⟩ = some (.int .u64 (n : Int)) := cell_of_row _ _ 0 _ _ _ kk
      have r1 : ((w9.setCell ⟨w.heap.size + 1 + 1, 0, none⟩ (.int .u64 (n : Int))).setCell ⟨w.heap.size + 1 + 1, 1, none⟩ (.slice ad8 (I.length + 1) cap8)).cell? ⟨w.heap.size + 1 + 1, 1, none⟩ = some (.slice ad8 (I.length + 1) cap8) := cell_of_row _ _ 1 _ _ _ kk
      refine bodyPost_ret (v := .tuple #[.agg #[.int .u64 (n : Int), .slice ad8 (I.length + 1) cap8], .bool F]) (by simp [results, Try.results15, go_sem, r0, r1]) rfl ?_
      have hk : Kept (fun k => k = w.heap.size + 1 + 1) wc ((w9.setCell ⟨w.heap.size + 1 + 1, 0, none⟩ (.int .u64 (n : Int))).setCell ⟨w.heap.size + 1 + 1, 1, none⟩ (.slice ad8 (I.length + 1) cap8)) :=
        ((show Kept (fun k => k = w.heap.size + 1 + 1) wc w9 from Kept.of_below E9.out.2).setCell (p := ⟨w.heap.size + 1 + 1, 0, none⟩) rfl _).setCell (p := ⟨w.heap.size + 1 + 1, 1, none⟩) rfl _
      refine ⟨_, .inr ?_, rfl, HH.out.2.2.1 _ _ (ownMore (ownKept QQ.out.2.2.1 hk ?_) (by omega)), hk.out QQ.out.2.2.2 hz (by intro k hk; omega)⟩
      · intro p m c e
        injection e with e1 e2 e3
        subst e1
        obtain ⟨g, cap2, hv, hg0, _⟩ := QQ.out.2.2.1.form (by omega)
        injection hv with hv
        injection hv with hv
        subst hv
        have h8 := (QQ.out.2.2.1.lt g rfl).2
        have h9 := hk.size
        exact ⟨by show w.heap.size ≤ g; omega, Nat.lt_of_lt_of_le h8 h9⟩
      intro b hb
      have := (QQ.out.2.2.1.lt b hb).1
      omega
    refine wp_region_mask (fun w' => w'.cell? ⟨w.heap.size, 1, none⟩ = some (.slice ad I.length cap) ∧ w'.rangeAt (w.heap.size + 1) 0 X.toList) 8 6 [false, true, true, false, true, false, false, false, false] #[false, true, true, false, true, false, false, false, false] (by kernel_rfl) (by kernel_rfl) (by kernel_rfl) (HS.out _ (br w5).drew) ?_
    have GG2 : w5.drew.heap[w.heap.size]? = some (.cells #[.int .u64 (n : Int), .slice ad I.length cap] 54) ∧ w5.drew.heap[w.heap.size + 1 + 1]? = some (.cells #[.int .u64 0, .slice none 0 0] 54) ∧ Below w.heap.size w w5.drew := ⟨GG.out.1, GG.out.2.2.1, GG.out.2.2.2.drew⟩
    have HS2 := Lib.hid (show ∀ w', Below w5.drew.heap.size w5.drew w' → _ from fun w' hb => HS.out w' ⟨hb.os, hb.tape, hb.output, hb.size, hb.block⟩)
    clear HS GG
    generalize w5.drew = w5 at *
    have GG := Lib.hid GG2
    clear GG2
    have HF := Lib.hid (show ∀ v8 w8, w8.ownsRow w5.heap.size 38 18 v8 (I.length + 1) (rowsI I ++ X.toList) → Below w5.heap.size w5 w8 → ∃ v8', (w8.setCell ⟨w.heap.size, 1, none⟩ v8).heap[w.heap.size]? = some (.cells #[.int .u64 (n : Int), v8'] 54) ∧ (w8.setCell ⟨w.heap.size, 1, none⟩ v8).heap[w.heap.size + 1 + 1]? = some (.cells #[.int .u64 0, .slice none 0 0] 54) ∧ (w8.setCell ⟨w.heap.size, 1, none⟩ v8).ownsRow (w.heap.size + 3) 38 18 v8' (I.length + 1) (rowsI I ++ X.toList) ∧ Below w.heap.size w (w8.setCell ⟨w.heap.size, 1, none⟩ v8) from fun v8 w8 ho8 hb8 => by
      have hlt1 := (Array.getElem?_eq_some_iff.1 GG.out.1).1
      have hlt2 := (Array.getElem?_eq_some_iff.1 GG.out.2.1).1
      have e1 := (hb8.block _ hlt1).trans GG.out.1
      have e2 := (hb8.block _ hlt2).trans GG.out.2.1
      have hk : Kept (fun k => k = w.heap.size) w8 (w8.setCell ⟨w.heap.size, 1, none⟩ v8) := (show Kept (fun k => k = w.heap.size) w8 w8 from Kept.of_below (br w8)).setCell (p := ⟨w.heap.size, 1, none⟩) rfl v8
      refine ⟨v8, setCell_block e1 1 v8, (hk.block _ (Array.getElem?_eq_some_iff.1 e2).1 (by omega)).trans e2, ?_, hk.out (bt GG.out.2.2 hb8) (bt GG.out.2.2 hb8).size (by intro k hk; omega)⟩
      have hbs := GG.out.2.2.size
      refine ownMore (ownKept ho8 hk ?_) (by omega)
      intro b hb
      have := (ho8.lt b hb).1
      omega)
    refine wpMask_skip ?_
    refine wpMask_take _ (Or.inl ⟨by rfl, fun w' hS => by (try dsimp only at hS); go_simp; try with_reducible rfl⟩) ?_
    simp only [Act.put, List.setIfInBounds_toArray, List.set_cons_zero, List.set_cons_succ]
    refine wpMask_take _ (Or.inl ⟨by rfl, fun w' hS => by (try dsimp only at hS); go_simp; try with_reducible rfl⟩) ?_
    simp only [Act.put, List.setIfInBounds_toArray, List.set_cons_zero, List.set_cons_succ]
    refine wpMask_skip ?_
    refine wpMask_take _ (yieldsIf_load_mid (by rfl) 38 (.tmp 3) rfl (w.heap.size + 1) 0 rfl X.toList _ (fun w' hS => hS.2) Try.underlying38 rfl (by rw [hxl]; kernel_rfl)) ?_
    simp only [Act.put, List.setIfInBounds_toArray, List.set_cons_zero, List.set_cons_succ]
    refine wpMask_skip (wpMask_skip (wpMask_skip (wpMask_skip (wpMask_nil ?_))))
    have hb5 := br w5
    have hXs : i0.size = X.size := hz1.trans (by simpa using hxl.symm)
    refine wpAnyS_ready (rs := [0, 5]) (by kernel_rfl) (by simp) ?_
    refine AllReadyS.cons rfl (fun K hK => ?_) ?_
    · -- the empty slice first
      go_simp
      refine hK.out _ _ (fun _ => HS2.out _ (ba hb5 _)) ?_
      clear hK K
      simp only [Act.put, List.setIfInBounds_toArray, List.set_cons_zero, List.set_cons_succ]
      have own1 := ownNil w5 w5.heap.size 38 18 hb5.size
      have hb1 := ba hb5 (.cells #[] 38)
      refine wpAnyS_ready (rs := [3, 5]) (by kernel_rfl) (by simp) ?_
      refine AllReadyS.cons rfl (fun K hK => ?_) ?_
      · -- the first append next
        refine step_append_any _ rfl (.tmp 67) (.tmp 69) 26 rfl w5.heap.size 38 i0 _ 18 160 Try.underlying26 hi hz0 hz1 hz2 rfl (by decide) _ 0 [] rfl own1 w.heap.size ad I.length cap (rowsI I) rfl (HH.out.2.2.2.below (bt GG.out.2.2 hb1)) (rowsI_one I) (by unfold maxLen; omega) (by omega) hb1.size ?_
        intro v6 w6 ho6 hg6 hu6
        have hb6 := grownB hb1 hb1.size hg6 (fun b hb => (own1.lt b hb).1)
        refine hK.out _ _ (fun _ => HS2.out _ hb6) ?_
        clear hK K
        simp only [Act.put, List.setIfInBounds_toArray, List.set_cons_zero, List.set_cons_succ]
        refine wpAnyS_ready (rs := [5]) (by kernel_rfl) (by simp) ?_
        refine AllReadyS.cons rfl (fun K hK => ?_) ?_
        · -- the second slice
          refine step_buildSlice_row rfl 26 (.tmp 71) rfl 38 i0 _ Try.underlying26 hi hz0 X rfl hXs (by omega) (by omega) ?_
          refine hK.out _ _ (fun _ => HS2.out _ (ba hb6 _)) ?_
          clear hK K
          simp only [Act.put, List.setIfInBounds_toArray, List.set_cons_zero, List.set_cons_succ]
          have ownX := ownOne w6 w5.heap.size 38 X 18 (by simpa using hxl) hb6.size
          have hb7 := ba hb6 (.cells X 38)
          refine wpAnyS_ready (rs := [6]) (by kernel_rfl) (by simp) ?_
          refine AllReadyS.cons rfl (fun K hK => ?_) ?_
          · -- the second append
            refine step_append_any _ rfl (.tmp 70) (.tmp 72) 26 rfl w5.heap.size 38 i0 _ 18 160 Try.underlying26 hi hz0 hz1 hz2 rfl (by decide) _ (0 + I.length) ([] ++ rowsI I) rfl (ho6.alloc _) _ _ 1 1 X.toList rfl (Reads.of_own ownX) hx1 (by unfold maxLen; omega) (by omega) hb7.size ?_
            intro v8 w8 ho8 hg8 hu8
            have hb8 := grownB hb7 hb7.size hg8 (fun b hb => (ho6.lt b hb).1)
            refine hK.out _ _ (fun _ => HS2.out _ hb8) ?_
            clear hK K
            simp only [Act.put, List.setIfInBounds_toArray, List.set_cons_zero, List.set_cons_succ]
            rw [List.nil_append, Nat.zero_add] at ho8
            obtain ⟨ad8, cap8, rfl⟩ := ownForm ho8
            have c8 := (HS2.out _ hb8).1
            have f8 : w8.frozen? ⟨w.heap.size, 1, none⟩ = false := frozen_of_row _ _ _ _ _ ((hb8.block _ (Array.getElem?_eq_some_iff.1 GG.out.1).1).trans GG.out.1)
            have hE := HF.out _ _ ho8 hb8
            refine wpAnyS_ready (rs := [7]) (by kernel_rfl) (by simp) ?_
            refine AllReadyS.cons rfl (fun K hK => ?_) ?_
            · go_simp
              refine hK.out _ _ (fun _ => HS2.out _ hb8) ?_
              clear hK K
              simp only [Act.put, List.setIfInBounds_toArray, List.set_cons_zero, List.set_cons_succ]
              refine wpAnyS_ready (rs := [8]) (by kernel_rfl) (by simp) ?_
              refine AllReadyS.cons rfl (fun K hK => ?_) ?_
              · go_simp
                refine hK.out _ _ (fun h => absurd h (by omega)) ?_
                clear hK K
                simp only [Act.put, List.setIfInBounds_toArray, List.set_cons_zero, List.set_cons_succ]
                refine wpAnyS_done (by kernel_rfl) ?_ _
                go_wp2
                go_meet
                exact hE
              · exact AllReadyS.nil
            · exact AllReadyS.nil
          · exact AllReadyS.nil
        · exact AllReadyS.nil
      refine AllReadyS.cons rfl (fun K hK => ?_) ?_
      · -- the second slice next
        refine step_buildSlice_row rfl 26 (.tmp 71) rfl 38 i0 _ Try.underlying26 hi hz0 X rfl hXs (by omega) (by omega) ?_
        refine hK.out _ _ (fun _ => HS2.out _ (ba hb1 _)) ?_
        clear hK K
        simp only [Act.put, List.setIfInBounds_toArray, List.set_cons_zero, List.set_cons_succ]
        have ownX := ownOne _ w5.heap.size 38 X 18 (by simpa using hxl) hb1.size
        have hb7 := ba hb1 (.cells X 38)
        refine wpAnyS_ready (rs := [3]) (by kernel_rfl) (by simp) ?_
        refine AllReadyS.cons rfl (fun K hK => ?_) ?_
        · -- the first append
          refine step_append_any _ rfl (.tmp 67) (.tmp 69) 26 rfl w5.heap.size 38 i0 _ 18 160 Try.underlying26 hi hz0 hz1 hz2 rfl (by decide) _ 0 [] rfl (own1.alloc _) w.heap.size ad I.length cap (rowsI I) rfl (HH.out.2.2.2.below (bt GG.out.2.2 hb7)) (rowsI_one I) (by unfold maxLen; omega) (by omega) hb7.size ?_
          intro v6 w6 ho6 hg6 hu6
          have hb6 := grownB hb7 hb7.size hg6 (fun b hb => (own1.lt b hb).1)
          refine hK.out _ _ (fun _ => HS2.out _ hb6) ?_
          clear hK K
          simp only [Act.put, List.setIfInBounds_toArray, List.set_cons_zero, List.set_cons_succ]
          have ownX6 := ownX.kept hg6 (.inr (fun e => by
            have e2 := Option.some.inj (show some (w5.alloc (.cells #[] 38)).heap.size = some w5.heap.size from e)
            simp at e2))
          refine wpAnyS_ready (rs := [6]) (by kernel_rfl) (by simp) ?_
          refine AllReadyS.cons rfl (fun K hK => ?_) ?_
          · -- the second append
            refine step_append_any _ rfl (.tmp 70) (.tmp 72) 26 rfl w5.heap.size 38 i0 _ 18 160 Try.underlying26 hi hz0 hz1 hz2 rfl (by decide) _ (0 + I.length) ([] ++ rowsI I) rfl ho6 _ _ 1 1 X.toList rfl (Reads.of_own ownX6) hx1 (by unfold maxLen; omega) (by omega) hb6.size ?_
            intro v8 w8 ho8 hg8 hu8
            have hb8 := grownB hb6 hb6.size hg8 (fun b hb => (ho6.lt b hb).1)
            refine hK.out _ _ (fun _ => HS2.out _ hb8) ?_
            clear hK K
            simp only [Act.put, List.setIfInBounds_toArray, List.set_cons_zero, List.set_cons_succ]
            rw [List.nil_append, Nat.zero_add] at ho8
            obtain ⟨ad8, cap8, rfl⟩ := ownForm ho8
            have c8 := (HS2.out _ hb8).1
            have f8 : w8.frozen? ⟨w.heap.size, 1, none⟩ = false := frozen_of_row _ _ _ _ _ ((hb8.block _ (Array.getElem?_eq_some_iff.1 GG.out.1).1).trans GG.out.1)
            have hE := HF.out _ _ ho8 hb8
            refine wpAnyS_ready (rs := [7]) (by kernel_rfl) (by simp) ?_
            refine AllReadyS.cons rfl (fun K hK => ?_) ?_
            · go_simp
              refine hK.out _ _ (fun _ => HS2.out _ hb8) ?_
              clear hK K
              simp only [Act.put, List.setIfInBounds_toArray, List.set_cons_zero, List.set_cons_succ]
              refine wpAnyS_ready (rs := [8]) (by kernel_rfl) (by simp) ?_
              refine AllReadyS.cons rfl (fun K hK => ?_) ?_
              · go_simp
                refine hK.out _ _ (fun h => absurd h (by omega)) ?_
                clear hK K
                simp only [Act.put, List.setIfInBounds_toArray, List.set_cons_zero, List.set_cons_succ]
                refine wpAnyS_done (by kernel_rfl) ?_ _
                go_wp2
                go_meet
                exact hE
              · exact AllReadyS.nil
            · exact AllReadyS.nil
          · exact AllReadyS.nil
        · exact AllReadyS.nil
      exact AllReadyS.nil
    refine AllReadyS.cons rfl (fun K hK => ?_) ?_
    · -- the second slice first
      refine step_buildSlice_row rfl 26 (.tmp 71) rfl 38 i0 _ Try.underlying26 hi hz0 X rfl hXs (by omega) (by omega) ?_
      refine hK.out _ _ (fun _ => HS2.out _ (ba hb5 _)) ?_
      clear hK K
      simp only [Act.put, List.setIfInBounds_toArray, List.set_cons_zero, List.set_cons_succ]
      have ownX := ownOne w5 w5.heap.size 38 X 18 (by simpa using hxl) hb5.size
      have hb1 := ba hb5 (.cells X 38)
      refine wpAnyS_ready (rs := [0]) (by kernel_rfl) (by simp) ?_
      refine AllReadyS.cons rfl (fun K hK => ?_) ?_
      · -- the empty slice
        go_simp
        refine hK.out _ _ (fun _ => HS2.out _ (ba hb1 _)) ?_
        clear hK K
        simp only [Act.put, List.setIfInBounds_toArray, List.set_cons_zero, List.set_cons_succ]
        have own1 := ownNil _ w5.heap.size 38 18 hb1.size
        rw [show (w5.alloc (.cells X 38)).heap.size = w5.heap.size + 1 by simp] at own1
        have hb7 := ba hb1 (.cells #[] 38)
        refine wpAnyS_ready (rs := [3]) (by kernel_rfl) (by simp) ?_
        refine AllReadyS.cons rfl (fun K hK => ?_) ?_
        · -- the first append
          refine step_append_any _ rfl (.tmp 67) (.tmp 69) 26 rfl w5.heap.size 38 i0 _ 18 160 Try.underlying26 hi hz0 hz1 hz2 rfl (by decide) _ 0 [] rfl own1 w.heap.size ad I.length cap (rowsI I) rfl (HH.out.2.2.2.below (bt GG.out.2.2 hb7)) (rowsI_one I) (by unfold maxLen; omega) (by omega) hb7.size ?_
          intro v6 w6 ho6 hg6 hu6
          have hb6 := grownB hb7 hb7.size hg6 (fun b hb => (own1.lt b hb).1)
          refine hK.out _ _ (fun _ => HS2.out _ hb6) ?_
          clear hK K
          simp only [Act.put, List.setIfInBounds_toArray, List.set_cons_zero, List.set_cons_succ]
          have ownX6 := (ownX.alloc _).kept hg6 (.inr (fun e => absurd (Option.some.inj (show some w5.heap.size = some (w5.heap.size + 1) from e)) (by omega)))
          refine wpAnyS_ready (rs := [6]) (by kernel_rfl) (by simp) ?_
          refine AllReadyS.cons rfl (fun K hK => ?_) ?_
          · -- the second append
            refine step_append_any _ rfl (.tmp 70) (.tmp 72) 26 rfl w5.heap.size 38 i0 _ 18 160 Try.underlying26 hi hz0 hz1 hz2 rfl (by decide) _ (0 + I.length) ([] ++ rowsI I) rfl ho6 _ _ 1 1 X.toList rfl (Reads.of_own ownX6) hx1 (by unfold maxLen; omega) (by omega) hb6.size ?_
            intro v8 w8 ho8 hg8 hu8
            have hb8 := grownB hb6 hb6.size hg8 (fun b hb => (ho6.lt b hb).1)
            refine hK.out _ _ (fun _ => HS2.out _ hb8) ?_
            clear hK K
            simp only [Act.put, List.setIfInBounds_toArray, List.set_cons_zero, List.set_cons_succ]
            rw [List.nil_append, Nat.zero_add] at ho8
            obtain ⟨ad8, cap8, rfl⟩ := ownForm ho8
            have c8 := (HS2.out _ hb8).1
            have f8 : w8.frozen? ⟨w.heap.size, 1, none⟩ = false := frozen_of_row _ _ _ _ _ ((hb8.block _ (Array.getElem?_eq_some_iff.1 GG.out.1).1).trans GG.out.1)
            have hE := HF.out _ _ ho8 hb8
            refine wpAnyS_ready (rs := [7]) (by kernel_rfl) (by simp) ?_
            refine AllReadyS.cons rfl (fun K hK => ?_) ?_
            · go_simp
              refine hK.out _ _ (fun _ => HS2.out _ hb8) ?_
              clear hK K
              simp only [Act.put, List.setIfInBounds_toArray, List.set_cons_zero, List.set_cons_succ]
              refine wpAnyS_ready (rs := [8]) (by kernel_rfl) (by simp) ?_
              refine AllReadyS.cons rfl (fun K hK => ?_) ?_
              · go_simp
                refine hK.out _ _ (fun h => absurd h (by omega)) ?_
                clear hK K
                simp only [Act.put, List.setIfInBounds_toArray, List.set_cons_zero, List.set_cons_succ]
                refine wpAnyS_done (by kernel_rfl) ?_ _
                go_wp2
                go_meet
                exact hE
              · exact AllReadyS.nil
            · exact AllReadyS.nil
          · exact AllReadyS.nil
        · exact AllReadyS.nil
      · exact AllReadyS.nil
    exact AllReadyS.nil
end Go.Proofs.Ytilijegipjpdlaa
