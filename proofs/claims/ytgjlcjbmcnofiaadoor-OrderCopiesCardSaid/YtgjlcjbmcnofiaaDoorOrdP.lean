/-
  OrderCopies' closure do: an act upon an order.
  Conditions: those that each theorem names.
-/
import Derived.Test.YtgjlcjbmcnofiaaDoorOrdO
namespace Go.Proofs.YtgjlcjbmcnofiaaDoor
set_option linter.unusedVariables false
set_option linter.unusedSimpArgs false
open Go.RowKit
/-- what an act does, and hands out -/
def DoTo (a : ActO) (O O' : PO) (L : List Msg) : Prop :=
  if a.kind = 0 then L = [] ∧ ((takeZ O a.m ≠ 0 ∧ O' = O) ∨ (takeZ O a.m = 0 ∧ ∃ m', core m' = core a.m ∧ O' = O.take a.m m'))
  else if a.kind = 1 then L = [] ∧ O' = { O with H := O.H.promise a.p a.stamp a.seq }
  else if a.kind = 2 then L = [] ∧ O' = { O with H := O.H.reached a.p a.stamp }
  else if a.kind = 3 ∨ a.kind = 4 then Drn O L O' ∧ O'.ripe = none
  else if a.kind = 5 then L = [] ∧ O' = O.trim a.p a.seq
  else L = [] ∧ O' = O
/-- what do leaves -/
def DoEnd (w0 w : World) (B D Z : Nat) (V VH : Nat → Value) (O : PO) (a : ActO) (e : Ending) (w' : World) : Prop :=
  ∃ L O' v, DoTo a O O' L ∧ e = .returned v ∧ RowO w.heap.size w' v L ∧ ∃ V' VH', OrH w0 w' B D Z O' V' VH' ∧ Kept (orS B D Z V VH) w w' ∧ newV w V V' ∧ newV w VH VH' ∧ ∀ b, v.ownBlock = some b → ¬ orS B D Z V' VH' b
theorem do_of {w0 w w3 w' : World} {B D Z : Nat} {V VH : Nat → Value} {O O' : PO} {a : ActO} (hb : Below w.heap.size w w3) (hd : DoTo a O O' []) (hg : OrG w0 w3 B D Z V VH O' w') : DoEnd w0 w B D Z V VH O a (.returned (.slice none 0 0)) w' := by
  obtain ⟨V', VH', h1, h2, h3, h4⟩ := hg
  exact ⟨[], O', _, hd, rfl, RowO.nil _ _, V', VH', h1, (Kept.of_below hb).trans h2, newV_below h3 hb.size, newV_below h4 hb.size, fun b hb => by cases hb⟩
set_option maxRecDepth 100000 in
set_option maxHeartbeats 8000000 in
theorem do_any {w0 w : World} {B D Z : Nat} {O : PO} {V VH : Nat → Value} (a : ActO) (h : OrH w0 w B D Z O V VH) (hk : OrOk O) (hT : Tab w0) (hm : ∀ W, Below w0.heap.size w0 W → MsgOk W a.m) (hd : a.m.ds.length ≤ 20000) (hs : a.seq < 4294967296) :
    Calls Tryd.prog 31 #[.pointer (some ⟨B, 0, none⟩), .agg (actL a).toArray] w (DoEnd w0 w B D Z V VH O a) := by
  obtain ⟨AB, hAB⟩ : ∃ x, x = w.heap.size := ⟨_, rfl⟩
  obtain ⟨w1, hw1⟩ : ∃ w1, w1 = w.alloc (.cells (actL a).toArray 51) := ⟨_, rfl⟩
  have hhA : w1.heap[AB]? = some (.cells (actL a).toArray 51 (0, 0)) := by rw [hw1, hAB]; exact heap_alloc_new w _
  have hb1 : Below w.heap.size w w1 := by rw [hw1]; exact ba (br w) _
  have h1 := h.below hb1
  have C0 := Lib.hid (show a.kind = 0 → Calls Tryd.prog 17 #[.pointer (some ⟨B, 0, none⟩), .agg (msgA a.m)] w1 fun e w' => (∃ z, e = .returned z) ∧ DoEnd w0 w B D Z V VH O a (.returned (.slice none 0 0)) w' from fun k0 => (orhTake h1 hk a.m (hm _ h1.bel) (by omega)).mono fun e w' hh => by
    obtain ⟨rfl, ⟨hz, hg⟩ | ⟨hz, m', hc, hg⟩⟩ := hh
    · exact ⟨⟨_, rfl⟩, do_of hb1 (by unfold DoTo; rw [if_pos k0]; exact ⟨rfl, .inl ⟨hz, rfl⟩⟩) hg⟩
    · exact ⟨⟨_, rfl⟩, do_of hb1 (by unfold DoTo; rw [if_pos k0]; exact ⟨rfl, .inr ⟨hz, m', hc, rfl⟩⟩) hg⟩)
  have C1 := Lib.hid (show ∀ w3, Below w1.heap.size w1 w3 → a.kind = 1 → Calls Tryd.prog 18 #[.pointer (some ⟨Z, 0, none⟩), .int .i64 a.p, .int .u64 (a.stamp : Int), .int .u32 (a.seq : Int)] w3 fun e w' => e = .returned (.tuple #[]) ∧ DoEnd w0 w B D Z V VH O a (.returned (.slice none 0 0)) w' from fun w3 hb3 k1 => (orhPromise (h1.below hb3) hk a.p a.stamp a.seq).mono fun e w' hh =>
    ⟨hh.1, do_of (bt hb1 hb3) (by unfold DoTo; rw [if_neg (by omega), if_pos k1]; exact ⟨rfl, rfl⟩) hh.2⟩)
  have C2 := Lib.hid (show ∀ w3, Below w1.heap.size w1 w3 → a.kind = 2 → Calls Tryd.prog 19 #[.pointer (some ⟨Z, 0, none⟩), .int .i64 a.p, .int .u64 (a.stamp : Int)] w3 fun e w' => e = .returned (.tuple #[]) ∧ DoEnd w0 w B D Z V VH O a (.returned (.slice none 0 0)) w' from fun w3 hb3 k2 => (orhReached (h1.below hb3) hk a.p a.stamp).mono fun e w' hh =>
    ⟨hh.1, do_of (bt hb1 hb3) (by unfold DoTo; rw [if_neg (by omega), if_neg (by omega), if_pos k2]; exact ⟨rfl, rfl⟩) hh.2⟩)
  have C3 := Lib.hid (show a.kind = 3 ∨ a.kind = 4 → Calls Tryd.prog 20 #[.pointer (some ⟨B, 0, none⟩)] w1 fun e w' => ∃ ad n c, e = .returned (.slice ad n c) ∧ DoEnd w0 w B D Z V VH O a (.returned (.slice ad n c)) w' from fun k3 => (orhDrain h1 hk hT).mono fun e w' hh => by
    obtain ⟨L, L', O', v, d1, d2, d3, d4, d5, d6, V', U', g1, g2, g3, g4, g5⟩ := hh
    obtain ⟨ad, c, rfl⟩ := ownForm d4
    refine ⟨ad, _, c, d3, L, O', _, by unfold DoTo; rw [if_neg (by omega), if_neg (by omega), if_neg (by omega), if_pos k3]; exact ⟨d1, d2⟩, rfl, ⟨L', own_base d4 (fun k hk => by have := (d4.lt k hk).1; have := hb1.size; omega), d5, fun m hm => ?_⟩, V', U', g1, (Kept.of_below hb1).trans g2, newV_below g3 hb1.size, newV_below g4 hb1.size, g5⟩
    obtain ⟨x1, x2, x3⟩ := d6 m hm
    exact ⟨x1, x2, fun ad e1 e2 => Nat.le_trans hb1.size (x3 ad e1 e2)⟩)
  have C5 := Lib.hid (show a.kind = 5 → Calls Tryd.prog 21 #[.pointer (some ⟨B, 0, none⟩), .int .i64 a.p, .int .u32 (a.seq : Int)] w1 fun e w' => e = .returned (.tuple #[]) ∧ DoEnd w0 w B D Z V VH O a (.returned (.slice none 0 0)) w' from fun k5 => (orhTrim h1 hk a.p a.seq hs).mono fun e w' hh =>
    ⟨hh.1, do_of hb1 (by unfold DoTo; rw [if_neg (by omega), if_neg (by omega), if_neg (by omega), if_neg (by omega), if_pos k5]; exact ⟨rfl, rfl⟩) hh.2⟩)
  have C6 := Lib.hid (show a.kind ≠ 0 → a.kind ≠ 1 → a.kind ≠ 2 → ¬ (a.kind = 3 ∨ a.kind = 4) → a.kind ≠ 5 → DoEnd w0 w B D Z V VH O a (.returned (.slice none 0 0)) w1 from fun k0 k1 k2 k3 k5 => do_of (br w) (by unfold DoTo; rw [if_neg k0, if_neg k1, if_neg k2, if_neg k3, if_neg k5]; exact ⟨rfl, rfl⟩) (h.go (OrTo.below h.at_ hb1)))
  obtain ⟨kd, hkd⟩ : ∃ kd, kd = a.kind := ⟨_, rfl⟩
  have c0 : w1.cell? ⟨AB, 0, none⟩ = some (.int .i64 kd) := by rw [hkd]; exact cell_of_row _ _ 0 _ _ _ hhA
  have HKD := Lib.hid hkd
  have lA := (Array.getElem?_eq_some_iff.1 hhA).1
  have y1 : w1.cell? ⟨AB, 1, none⟩ = some (.int .i64 a.p) := cell_of_row _ _ 1 _ _ _ hhA
  have y2 : w1.cell? ⟨AB, 2, none⟩ = some (.int .i64 a.m.frm) := cell_of_row _ _ 2 _ _ _ hhA
  have y3 : w1.cell? ⟨AB, 3, none⟩ = some (.int .u32 (a.m.seq : Int)) := cell_of_row _ _ 3 _ _ _ hhA
  have y4 : w1.cell? ⟨AB, 4, none⟩ = some (.int .u64 (a.m.stamp : Int)) := cell_of_row _ _ 4 _ _ _ hhA
  have y5 : w1.cell? ⟨AB, 5, none⟩ = some (.int .i64 a.m.service) := cell_of_row _ _ 5 _ _ _ hhA
  have y6 : w1.cell? ⟨AB, 6, none⟩ = some (.slice a.m.da a.m.ds.length a.m.dc) := cell_of_row _ _ 6 _ _ _ hhA
  have y7 : w1.cell? ⟨AB, 7, none⟩ = some (.string a.m.pay) := cell_of_row _ _ 7 _ _ _ hhA
  have y8 : w1.cell? ⟨AB, 8, none⟩ = some (.int .u32 (a.seq : Int)) := cell_of_row _ _ 8 _ _ _ hhA
  have y9 : w1.cell? ⟨AB, 9, none⟩ = some (.int .u64 (a.stamp : Int)) := cell_of_row _ _ 9 _ _ _ hhA
  have z1 : ∀ y : Bel w1, y.val.cell? ⟨AB, 1, none⟩ = some (.int .i64 a.p) := Bel.cell y1 lA
  have z8 : ∀ y : Bel w1, y.val.cell? ⟨AB, 8, none⟩ = some (.int .u32 (a.seq : Int)) := Bel.cell y8 lA
  have z9 : ∀ y : Bel w1, y.val.cell? ⟨AB, 9, none⟩ = some (.int .u64 (a.stamp : Int)) := Bel.cell y9 lA
  have zZ : ∀ y : Bel w1, y.val.cell? ⟨B, 1, none⟩ = some (.pointer (some ⟨Z, 0, none⟩)) := Bel.cell h1.cZ h1.at_.lt
  have HW := Lib.hid (And.intro hw1 hAB)
  obtain ⟨ca, hca⟩ : ∃ ca, ca = (actL a).toArray := ⟨_, rfl⟩
  rw [← hca] at HW ⊢
  clear hkd h h1 hk hm hd hs hb1 hw1 hAB hhA lA hca
  go_enter Tryd.func31, Tryd.ntmps31
  go_upto_region 1 with (fail)
  rw [← HW.out.1, ← HW.out.2]
  clear HW
  by_cases k0 : kd = 0
  · have d0 : (kd == 0) = true := by simpa using k0
    have HC := Lib.hid (C0.out (by rw [← HKD.out]; exact k0))
    clear C0 C1 C2 C3 C5 C6 z1 z8 z9 zZ
    go_wp2_with fail
    refine HC.out.mono ?_
    rintro e w4 ⟨⟨z, rfl⟩, hE⟩
    have HE := Lib.hid hE
    clear hE HC
    go_wp2_with fail
    go_ret
    exact HE.out
  · have d0 : (kd == 0) = false := by simpa using k0
    by_cases k1 : kd = 1
    · have d1 : (kd == 1) = true := by simpa using k1
      go_upto_region 5 with (fail)
      refine wp_region_bel_tail 10 (by kernel_rfl) (by kernel_rfl) ?_
      simp only [List.take_succ_cons, List.take_zero, List.drop_succ_cons, List.drop_zero]
      repeat (go_big_quiet_step ((fail)))
      refine wpQuiet_nil ?_
      intro w3 hw3
      have HC := Lib.hid (C1.out w3 (bel_out hw3) (by rw [← HKD.out]; exact k1))
      clear hw3 C0 C1 C2 C3 C5 C6 z1 z8 z9 zZ c0 y1 y2 y3 y4 y5 y6 y7 y8 y9
      go_wp2_with fail
      refine HC.out.mono ?_
      rintro e w4 ⟨rfl, hE⟩
      have HE := Lib.hid hE
      clear hE HC
      go_wp2_with fail
      go_ret
      exact HE.out
    · have d1 : (kd == 1) = false := by simpa using k1
      by_cases k2 : kd = 2
      · have d2 : (kd == 2) = true := by simpa using k2
        go_upto_region 7 with (fail)
        refine wp_region_bel_tail 8 (by kernel_rfl) (by kernel_rfl) ?_
        simp only [List.take_succ_cons, List.take_zero, List.drop_succ_cons, List.drop_zero]
        repeat (go_big_quiet_step ((fail)))
        refine wpQuiet_nil ?_
        intro w3 hw3
        have HC := Lib.hid (C2.out w3 (bel_out hw3) (by rw [← HKD.out]; exact k2))
        clear hw3 C0 C1 C2 C3 C5 C6 z1 z8 z9 zZ c0 y1 y2 y3 y4 y5 y6 y7 y8 y9
        go_wp2_with fail
        refine HC.out.mono ?_
        rintro e w4 ⟨rfl, hE⟩
        have HE := Lib.hid hE
        clear hE HC
        go_wp2_with fail
        go_ret
        exact HE.out
      · have d2 : (kd == 2) = false := by simpa using k2
        clear z1 z8 z9 zZ
        by_cases k3 : kd = 3 ∨ kd = 4
        · have HC := Lib.hid (C3.out (by rw [← HKD.out]; exact k3))
          clear C0 C1 C2 C3 C5 C6
          rcases k3 with k3 | k3
          · have d3 : (kd == 3) = true := by simpa using k3
            go_wp2_with fail
            refine HC.out.mono ?_
            rintro e w4 ⟨ad, n, c, rfl, hE⟩
            have HE := Lib.hid hE
            clear hE HC
            go_wp2_with fail
            go_ret
            exact HE.out
          · have d3 : (kd == 3) = false := by simp; omega
            have d4 : (kd == 4) = true := by simpa using k3
            go_wp2_with fail
            refine HC.out.mono ?_
            rintro e w4 ⟨ad, n, c, rfl, hE⟩
            have HE := Lib.hid hE
            clear hE HC
            go_wp2_with fail
            go_ret
            exact HE.out
        · have d3 : (kd == 3) = false := by simp; omega
          have d4 : (kd == 4) = false := by simp; omega
          by_cases k5 : kd = 5
          · have d5 : (kd == 5) = true := by simpa using k5
            have HC := Lib.hid (C5.out (by rw [← HKD.out]; exact k5))
            clear C0 C1 C2 C3 C5 C6 k3
            go_wp2_with fail
            refine HC.out.mono ?_
            rintro e w4 ⟨rfl, hE⟩
            have HE := Lib.hid hE
            clear hE HC
            go_wp2_with fail
            go_ret
            exact HE.out
          · have d5 : (kd == 5) = false := by simpa using k5
            have HE := Lib.hid (C6.out (by rw [← HKD.out]; exact k0) (by rw [← HKD.out]; exact k1) (by rw [← HKD.out]; exact k2) (by rw [← HKD.out]; exact k3) (by rw [← HKD.out]; exact k5))
            clear C0 C1 C2 C3 C5 C6 k3
            go_wp2_with fail
            go_ret
            exact HE.out
end Go.Proofs.YtgjlcjbmcnofiaaDoor
