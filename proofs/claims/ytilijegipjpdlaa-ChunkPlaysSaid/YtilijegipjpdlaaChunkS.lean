/-
  What the reference's Take returns where the item does not count.
  Conditions: none.
-/
import Derived.Test.YtilijegipjpdlaaChunkR
namespace Go.Proofs.Ytilijegipjpdlaa
set_option linter.unusedVariables false
set_option linter.unusedSimpArgs false
open Go.RowKit IM
theorem ref_ret {w W w9 : World} {a b : Value} (q0 : W.heap[w.heap.size]? = some (.cells #[a, b] 54)) (q1 : W.heap[w.heap.size + 1 + 1]? = some (.cells #[.int .u64 0, .slice none 0 0] 54)) (fb : Below w.heap.size w W) (hb9 : Below W.heap.size W w9) :
    (w9.cell? ⟨w.heap.size, 0, none⟩ = some a ∧ w9.cell? ⟨w.heap.size, 1, none⟩ = some b ∧ w9.cell? ⟨w.heap.size + 1 + 1, 0, none⟩ = some (.int .u64 0) ∧ w9.cell? ⟨w.heap.size + 1 + 1, 1, none⟩ = some (.slice none 0 0) ∧ w9.frozen? ⟨w.heap.size + 1 + 1, 0, none⟩ = false ∧ w9.frozen? ⟨w.heap.size + 1 + 1, 1, none⟩ = false) ∧
    ((w9.setCell ⟨w.heap.size + 1 + 1, 0, none⟩ a).setCell ⟨w.heap.size + 1 + 1, 1, none⟩ b).cell? ⟨w.heap.size + 1 + 1, 0, none⟩ = some a ∧ ((w9.setCell ⟨w.heap.size + 1 + 1, 0, none⟩ a).setCell ⟨w.heap.size + 1 + 1, 1, none⟩ b).cell? ⟨w.heap.size + 1 + 1, 1, none⟩ = some b ∧
    Below w.heap.size w ((w9.setCell ⟨w.heap.size + 1 + 1, 0, none⟩ a).setCell ⟨w.heap.size + 1 + 1, 1, none⟩ b) := by
  have e0 := (hb9.block _ (Array.getElem?_eq_some_iff.1 q0).1).trans q0
  have e1 := (hb9.block _ (Array.getElem?_eq_some_iff.1 q1).1).trans q1
  have kk := setCell_block (setCell_block e1 0 a) 1 b
  have hk : Kept (fun k => k = w.heap.size + 1 + 1) w9 ((w9.setCell ⟨w.heap.size + 1 + 1, 0, none⟩ a).setCell ⟨w.heap.size + 1 + 1, 1, none⟩ b) :=
    ((show Kept (fun k => k = w.heap.size + 1 + 1) w9 w9 from Kept.of_below (br w9)).setCell (p := ⟨w.heap.size + 1 + 1, 0, none⟩) rfl _).setCell (p := ⟨w.heap.size + 1 + 1, 1, none⟩) rfl _
  have hbw := bt fb hb9
  exact ⟨⟨cell_of_row _ _ 0 _ _ _ e0, cell_of_row _ _ 1 _ _ _ e0, cell_of_row _ _ 0 _ _ _ e1, cell_of_row _ _ 1 _ _ _ e1, frozen_of_row _ _ _ _ _ e1, frozen_of_row _ _ _ _ _ e1⟩, cell_of_row _ _ 0 _ _ _ kk, cell_of_row _ _ 1 _ _ _ kk, hk.out hbw hbw.size (by intro k hk; omega)⟩
set_option maxRecDepth 100000 in
set_option maxHeartbeats 4000000 in
theorem refTake_out (n : Nat) (v : Value) (I : List ItemV) (t : Int) (x : ItemV) (w : World) (h : LogsAt w v I) (hg : GoodC t (pairsI I)) (ht : ∀ hI : 0 < I.length, I[0].total = t)
    (hc : countC n t (pairsI I) x = false) :
    Calls Try.prog 15 #[.agg #[.int .u64 (n : Int), v], .agg (itemA x)] w (RefTakePost w n v t I x) := by
  obtain ⟨ad, cap, rfl, hl, hr⟩ := id h
  have hlen := hg.len.2
  have hpl : (pairsI I).length = I.length := by unfold pairsI; simp
  rw [hpl] at hlen
  have hfind : ∀ (W : World), Below w.heap.size w W → hasC (pairsI I) x.index = true → Calls Try.prog 20 #[.agg #[.int .u64 (n : Int), .slice ad I.length cap], .int .i64 x.index] W fun e w' => ∃ s, e = .returned (.tuple #[.string s, .bool true]) ∧ Below W.heap.size W w' := fun W hbW h8 => by
    have := refFind_any n _ I x.index W (h.below hbW)
    rw [pairs_has] at h8
    obtain ⟨y, hy⟩ := Option.isSome_iff_exists.1 h8
    rw [hy] at this
    exact this.mono (fun e w' h => ⟨_, h.1, h.2⟩)
  have hfirst : 0 < I.length → ∃ B O, ad = some ⟨B, O, none⟩ ∧ B < w.heap.size ∧ w.cell? ⟨B, O + 17, none⟩ = some (.int .i64 t) := by
    intro h0
    obtain ⟨B, O, e, hB, hrr, _⟩ := hr 0 h0
    refine ⟨B, O, e, hB, ?_⟩
    have := hrr 17 _ rfl
    rw [Nat.zero_mul, Nat.add_zero] at this
    rw [this]
    show some (Value.int .i64 I[0].total) = _
    rw [ht h0]
  unfold RefTakePost takeI takeB
  rw [hc, if_neg (by simp), Bool.false_and]
  have HP := Lib.hid (show ∀ W', Below w.heap.size w W' → ∃ v, (v = .slice ad I.length cap ∨ ∀ p m c, v = .slice (some p) m c → w.heap.size ≤ p.block ∧ p.block < W'.heap.size) ∧ Ending.returned (.tuple #[.agg #[.int .u64 (n : Int), .slice ad I.length cap], .bool false]) = .returned (.tuple #[.agg #[.int .u64 (n : Int), v], .bool false]) ∧ LogsAt W' v I ∧ Below w.heap.size w W' from fun W' hb => ⟨_, .inl rfl, rfl, h.below hb, hb⟩)
  have HH := Lib.hid hfind
  have HC := Lib.hid hc
  clear hfind hr ht hg h hc
  have k0 : (itemA x)[0]? = some (.int .i64 x.kind) := rfl
  have k15 : (itemA x)[15]? = some (.int .u64 (x.number : Int)) := rfl
  have k16 : (itemA x)[16]? = some (.int .i64 x.index) := rfl
  have k17 : (itemA x)[17]? = some (.int .i64 x.total) := rfl
  obtain ⟨X, hX⟩ : ∃ X, X = itemA x := ⟨_, rfl⟩
  rw [← hX] at k0 k15 k16 k17 ⊢
  clear hX
  obtain ⟨f0, f1, f2⟩ := alloc3 w (.cells #[.int .u64 (n : Int), .slice ad I.length cap] 54) (.cells X 38) (.cells #[.int .u64 0, .slice none 0 0] 54)
  have fb := ba (ba (ba (br w) (.cells #[.int .u64 (n : Int), .slice ad I.length cap] 54)) (.cells X 38)) (.cells #[.int .u64 0, .slice none 0 0] 54)
  have FF := Lib.hid (And.intro f0 (And.intro f1 (And.intro f2 fb)))
  clear f0 f1 f2 fb
  go_enter Try.func15, Try.ntmps15
  go_upto_region 1 with (fail)
  generalize ((w.alloc (.cells #[.int .u64 (n : Int), .slice ad I.length cap] 54)).alloc (.cells X 38)).alloc (.cells #[.int .u64 0, .slice none 0 0] 54) = W at *
  have a0 : W.cell? ⟨w.heap.size, 0, none⟩ = some (.int .u64 (n : Int)) := cell_of_row _ _ 0 _ _ _ FF.out.1
  have a1 : W.cell? ⟨w.heap.size, 1, none⟩ = some (.slice ad I.length cap) := cell_of_row _ _ 1 _ _ _ FF.out.1
  have b0 : W.cell? ⟨w.heap.size + 1, 0, none⟩ = some (.int .i64 x.kind) := (cell_of_row _ _ 0 _ _ _ FF.out.2.1).trans k0
  have b15 : W.cell? ⟨w.heap.size + 1, 15, none⟩ = some (.int .u64 (x.number : Int)) := (cell_of_row _ _ 15 _ _ _ FF.out.2.1).trans k15
  have b16 : W.cell? ⟨w.heap.size + 1, 16, none⟩ = some (.int .i64 x.index) := (cell_of_row _ _ 16 _ _ _ FF.out.2.1).trans k16
  have b17 : W.cell? ⟨w.heap.size + 1, 17, none⟩ = some (.int .i64 x.total) := (cell_of_row _ _ 17 _ _ _ FF.out.2.1).trans k17
  clear k0 k15 k16 k17
  go_cut [41] (fun s41 wx => s41 = .bool (decide (¬ (x.kind = 4 ∧ x.number = n ∧ 1 ≤ x.total ∧ x.total ≤ 16 ∧ 0 ≤ x.index ∧ x.index < x.total))) ∧ W = wx)
  case first =>
    by_cases h1 : x.kind = 4
    case neg =>
      have d1 : (x.kind == 4) = false := by simpa using h1
      have d1' : (x.kind != 4) = true := by simpa using h1
      go_wp2
      go_meet
      exact ⟨congrArg Value.bool (decide_eq_true (by omega)).symm, rfl⟩
    have d1 : (x.kind == 4) = true := by simpa using h1
    have d1' : (x.kind != 4) = false := by simpa using h1
    by_cases h2 : x.number = n
    case neg =>
      have d2 : ((x.number : Int) == (n : Int)) = false := by simp; omega
      have d2' : ((x.number : Int) != (n : Int)) = true := by simp; omega
      go_wp2
      go_meet
      exact ⟨congrArg Value.bool (decide_eq_true (by omega)).symm, rfl⟩
    have d2 : ((x.number : Int) == (n : Int)) = true := by simp; omega
    have d2' : ((x.number : Int) != (n : Int)) = false := by simp; omega
    by_cases h3 : x.total < 1
    case pos =>
      have d3 : decide (x.total < 1) = true := by simp; omega
      go_wp2
      go_meet
      exact ⟨congrArg Value.bool (decide_eq_true (by omega)).symm, rfl⟩
    have d3 : decide (x.total < 1) = false := by simp; omega
    by_cases h4 : 16 < x.total
    case pos =>
      have d4 : decide (16 < x.total) = true := by simp; omega
      go_wp2
      go_meet
      exact ⟨congrArg Value.bool (decide_eq_true (by omega)).symm, rfl⟩
    have d4 : decide (16 < x.total) = false := by simp; omega
    by_cases h5 : x.index < 0
    case pos =>
      have d5 : decide (x.index < 0) = true := by simp; omega
      go_wp2
      go_meet
      exact ⟨congrArg Value.bool (decide_eq_true (by omega)).symm, rfl⟩
    have d5 : decide (x.index < 0) = false := by simp; omega
    by_cases h6 : x.total ≤ x.index
    case pos =>
      have d6 : decide (x.total ≤ x.index) = true := by simp; omega
      go_wp2
      go_meet
      exact ⟨congrArg Value.bool (decide_eq_true (by omega)).symm, rfl⟩
    have d6 : decide (x.total ≤ x.index) = false := by simp; omega
    go_wp2
    go_meet
    exact ⟨congrArg Value.bool (decide_eq_false (by omega)).symm, rfl⟩
  case rest =>
    obtain ⟨rfl, rfl⟩ := hcut
    by_cases hB : x.kind = 4 ∧ x.number = n ∧ 1 ≤ x.total ∧ x.total ≤ 16 ∧ 0 ≤ x.index ∧ x.index < x.total
    case neg =>
      rw [decide_eq_true hB]
      obtain ⟨⟨c0, c1, c2, c3, c4, c5⟩, r0, r1, hbe⟩ := ref_ret FF.out.1 FF.out.2.2.1 FF.out.2.2.2 (br W)
      have RR := Lib.hid (And.intro r0 (And.intro r1 hbe))
      clear a0 a1 b0 b15 b16 b17 r0 r1 hbe hfirst
      go_wp2
      refine bodyPost_ret (v := .tuple #[.agg #[.int .u64 (n : Int), .slice ad I.length cap], .bool false]) (by simp [results, Try.results15, go_sem, RR.out.1, RR.out.2.1]) rfl (HP.out _ RR.out.2.2)
    rw [decide_eq_false (by simpa using hB)]
    by_cases hT : 0 < I.length ∧ t ≠ x.total
    · obtain ⟨h0, h7⟩ := hT
      obtain ⟨B, O, rfl, hB, c17⟩ := hfirst h0
      have e0 : decide ((0 : Int) < (I.length : Int)) = true := by simp; omega
      have e0' : decide (0 < I.length) = true := by simp; omega
      have e1 : (0 : Int) < (I.length : Int) := by omega
      have e2 : (t == x.total) = false := by simpa using h7
      have e3 : (t != x.total) = true := by simpa using h7
      have c17' : W.cell? ⟨B, O + 17, none⟩ = some (.int .i64 t) := (FF.out.2.2.2.cell (p := ⟨B, O + 17, none⟩) hB).trans c17
      clear h0 c17 h7
      go_upto_region 3 with (fail)
      go_cut [56] (fun s56 wx => s56 = .bool true ∧ ∃ nq, W.drewN nq = wx)
      case first =>
        go_quiet (fail)
        go_wp2
        go_meet
        exact ⟨rfl, _, rfl⟩
      case rest =>
        obtain ⟨rfl, nq, rfl⟩ := hcut
        obtain ⟨⟨c0, c1, c2, c3, c4, c5⟩, r0, r1, hbe⟩ := ref_ret FF.out.1 FF.out.2.2.1 FF.out.2.2.2 (bn (br W) nq)
        have RR := Lib.hid (And.intro r0 (And.intro r1 hbe))
        clear a0 a1 b0 b15 b16 b17 r0 r1 hbe c17'
        go_wp2
        refine bodyPost_ret (v := .tuple #[.agg #[.int .u64 (n : Int), .slice (some ⟨B, O, none⟩) I.length cap], .bool false]) (by simp [results, Try.results15, go_sem, RR.out.1, RR.out.2.1]) rfl (HP.out _ RR.out.2.2)
    · have h8 : hasC (pairsI I) x.index = true := by
        have := HC.out
        unfold countC at this
        rcases Bool.and_eq_false_iff.1 this with h | h
        · refine absurd h ?_
          rw [decide_eq_true (show okC n t (pairsI I) x from ⟨hB.1, hB.2.1, hB.2.2.1, hB.2.2.2.1, hB.2.2.2.2.1, hB.2.2.2.2.2, ?_⟩)]
          · simp
          · rcases Nat.eq_zero_or_pos I.length with h0 | h0
            · exact .inl (List.length_eq_zero_iff.1 (by rw [hpl]; exact h0))
            · exact .inr (Classical.byContradiction fun e => hT ⟨h0, fun e2 => e e2.symm⟩)
        · simpa using h
      go_upto_region 3 with (fail)
      go_cut [56] (fun s56 wx => s56 = .bool false ∧ ∃ nq, W.drewN nq = wx)
      case first =>
        rcases Nat.eq_zero_or_pos I.length with h0 | h0
        · have e0 : decide ((0 : Int) < (I.length : Int)) = false := by rw [h0]; rfl
          have e0' : decide (0 < I.length) = false := by rw [h0]; rfl
          clear h0
          go_quiet (fail)
          go_wp2
          go_meet
          exact ⟨rfl, _, rfl⟩
        · obtain ⟨B, O, rfl, hB, c17⟩ := hfirst h0
          have h7 : t = x.total := Classical.byContradiction fun e => hT ⟨h0, e⟩
          have e0 : decide ((0 : Int) < (I.length : Int)) = true := by simp; omega
          have e0' : decide (0 < I.length) = true := by simp; omega
          have e1 : (0 : Int) < (I.length : Int) := by omega
          have e2 : (t == x.total) = true := by simpa using h7
          have e3 : (t != x.total) = false := by simpa using h7
          have c17' : W.cell? ⟨B, O + 17, none⟩ = some (.int .i64 t) := (FF.out.2.2.2.cell (p := ⟨B, O + 17, none⟩) hB).trans c17
          clear h0 c17 h7
          go_quiet (fail)
          go_wp2
          go_meet
          exact ⟨rfl, _, rfl⟩
      case rest =>
        obtain ⟨rfl, nq, rfl⟩ := hcut
        go_wp2_with fail
        refine (HH.out _ (bn FF.out.2.2.2 _) h8).mono ?_
        rintro e w5 ⟨s, rfl, hb5⟩
        replace hb5 : Below W.heap.size W w5 := ⟨hb5.os, hb5.tape, hb5.output, hb5.size, hb5.block⟩
        obtain ⟨⟨c0, c1, c2, c3, c4, c5⟩, r0, r1, hbe⟩ := ref_ret FF.out.1 FF.out.2.2.1 FF.out.2.2.2 hb5
        have RR := Lib.hid (And.intro r0 (And.intro r1 hbe))
        clear a0 a1 b0 b15 b16 b17 r0 r1 hbe
        go_wp2
        refine bodyPost_ret (v := .tuple #[.agg #[.int .u64 (n : Int), .slice ad I.length cap], .bool false]) (by simp [results, Try.results15, go_sem, RR.out.1, RR.out.2.1]) rfl (HP.out _ RR.out.2.2)
theorem refTake_any (n : Nat) (v : Value) (I : List ItemV) (t : Int) (x : ItemV) (w : World) (h : LogsAt w v I) (hg : GoodC t (pairsI I)) (ht : ∀ hI : 0 < I.length, I[0].total = t) (hb : SmallC (takeL n t (pairsI I) x)) (hxb : x.data.size ≤ 9223372036854775807) (hxn : x.number < 18446744073709551616) :
    Calls Try.prog 15 #[.agg #[.int .u64 (n : Int), v], .agg (itemA x)] w (RefTakePost w n v t I x) := by
  cases hc : countC n t (pairsI I) x
  · exact refTake_out n v I t x w h hg ht hc
  · have e : pairsI (I ++ [x]) = takeL n t (pairsI I) x := by
      rw [← pairs_take]
      unfold takeI
      rw [if_pos hc]
    exact refTake_in n v I t x w h hg ht (e ▸ hb) hxb hxn hc
end Go.Proofs.Ytilijegipjpdlaa
