/-
  The stay that an event stands in.
  Conditions: those that each theorem names.
-/
import Derived.Test.YtogagkgkmoppmaaMonM
namespace Go.Proofs.Ytogagkgkmoppmaa
set_option linter.unusedVariables false
set_option linter.unusedSimpArgs false
open Go.RowKit GM
set_option maxRecDepth 100000 in
theorem confNeq (w : World) (a0 a1 b0 b1 : Int) : (Go.binOp .neq 30 (.agg #[.int .u64 a0, .int .i64 a1]) (.agg #[.int .u64 b0, .int .i64 b1])).run Try.prog w = .ok (.bool (!(a0 == b0 && a1 == b1))) w := by
  by_cases h0 : a0 = b0
  rotate_left
  · have d : (a0 == b0) = false := by simpa using h0
    rw [d]
    (try simp only [Bool.and_false, Bool.false_and])
    go_simp
  subst h0
  have e0 : (a0 == a0) = true := by simp
  by_cases h1 : a1 = b1
  rotate_left
  · have d : (a1 == b1) = false := by simpa using h1
    rw [d]
    (try simp only [Bool.and_false, Bool.false_and])
    go_simp
  subst h1
  have e1 : (a1 == a1) = true := by simp
  rw [e0, e1]
  (try simp only [Bool.and_self])
  go_simp
theorem live_look {w : World} {B b0 : Nat} {M : MM} {R : List Pc} (h : Own w b0 (parts B M ++ R)) (i : Int) : (Instr.lookup 51 (.map (some M.c.lb)) (.int .i64 i) false).run Try.prog w = .ok (.bool ((get M.live i).getD false)) w := by
  have := (own_live h).lookup (P := Try.prog) Try.underlying51 intLaw (z := .bool false) (by kernel_rfl) i
  rw [get_vals] at this
  rw [this]
  cases get M.live i <;> rfl
theorem now_look {w : World} {B b0 : Nat} {M : MM} {R : List Pc} (h : Own w b0 (parts B M ++ R)) (i : Int) : (Instr.lookup 52 (.map (some M.c.nb)) (.int .i64 i) false).run Try.prog w = .ok (((get M.now i).map (nthV M.stays)).getD (.pointer none)) w := by
  have := (own_now h).lookup (P := Try.prog) Try.underlying52 intLaw (z := .pointer none) (by kernel_rfl) i
  rw [get_vals] at this
  exact this
theorem now_lt {M : MM} (h : MOk M) {i : Int} {k : Nat} (hk : get M.now i = some k) : k < M.stays.length := by
  unfold GM.get at hk
  cases hf : M.now.find? (fun x => decide (x.1 = i)) with
  | none => rw [hf] at hk; cases hk
  | some p =>
    rw [hf] at hk
    injection hk with hk
    rw [← hk]
    exact h.now p (List.mem_of_find?_eq_some hf)
theorem nth_at {l : List SX} {k : Nat} (h : k < l.length) : nthV l k = ptrV l[k].b := by
  unfold nthV
  simp [h]
set_option maxHeartbeats 4000000 in
theorem stay_any (w : World) (B b0 : Nat) (M : MM) (R : List Pc) (hO : Own w b0 (parts B M ++ R)) (hM : MOk M) (hb0 : b0 ≤ w.heap.size) (x : Ev) :
    Calls Try.prog 19 #[.pointer (some ⟨B, 0, none⟩), .agg (evA x)] w fun e w' =>
      (∃ k, ∃ hk : k < M.stays.length, stayOf M x = some k ∧ e = .returned (ptrV M.stays[k].b) ∧ Below w.heap.size w w') ∨
      (stayOf M x = none ∧ e = .returned (.pointer none) ∧ Own w' b0 (parts B (M.br 1 true) ++ R) ∧ Kept (fun k => b0 ≤ k) w w') := by
  obtain ⟨w1, hw1⟩ : ∃ w1, w1 = w.alloc (.cells (evA x) 39) := ⟨_, rfl⟩
  have hb1 : Below w.heap.size w w1 := by rw [hw1]; exact ba (br w) _
  have hx1 : w1.heap[w.heap.size]? = some (.cells (evA x) 39 (0, 0)) := by rw [hw1]; exact heap_alloc_new w _
  obtain ⟨X, hX⟩ : ∃ X, X = w.heap.size := ⟨_, rfl⟩
  rw [← hX] at hx1
  have hO1 := hO.below hb1
  have hX1 : X < w1.heap.size := (Array.getElem?_eq_some_iff.1 hx1).1
  have hB1 := (own_mon hO1).lt
  have c4 := Bel.cell (show w1.cell? ⟨B, 4, none⟩ = some (.map (some M.c.lb)) from cell_of_row _ _ 4 _ _ _ (own_mon hO1)) hB1
  have c5 := Bel.cell (show w1.cell? ⟨B, 5, none⟩ = some (.map (some M.c.nb)) from cell_of_row _ _ 5 _ _ _ (own_mon hO1)) hB1
  have e1 := Bel.cell (show w1.cell? ⟨X, 1, none⟩ = some (.int .i64 x.proc) from cell_of_row _ _ 1 _ _ _ hx1) hX1
  have e2 := Bel.cell (show w1.cell? ⟨X, 2, none⟩ = some (.int .u64 (x.ce : Int)) from cell_of_row _ _ 2 _ _ _ hx1) hX1
  have e3 := Bel.cell (show w1.cell? ⟨X, 3, none⟩ = some (.int .i64 x.cr) from cell_of_row _ _ 3 _ _ _ hx1) hX1
  have hlv : ∀ y : Bel w1, (Instr.lookup 51 (.map (some M.c.lb)) (.int .i64 x.proc) false).run Try.prog y.val = .ok (.bool ((get M.live x.proc).getD false)) y.val := fun y => live_look (hO1.below y.prop) _
  have hnw : ∀ y : Bel w1, (Instr.lookup 52 (.map (some M.c.nb)) (.int .i64 x.proc) false).run Try.prog y.val = .ok (((get M.now x.proc).map (nthV M.stays)).getD (.pointer none)) y.val := fun y => now_look (hO1.below y.prop) _
  have hK := Lib.hid (And.intro hO1 (And.intro hb1 (And.intro hM hb0)))
  have fail1 : ∀ (w2 : World), Below w1.heap.size w1 w2 → Calls Try.prog 20 #[.pointer (some ⟨B, 0, none⟩), .int .i64 1, .bool true] w2 fun e w' => e = .returned (.tuple #[]) ∧ Own w' b0 (parts B (M.br 1 true) ++ R) ∧ Kept (fun k => b0 ≤ k) w w' := fun w2 hb2 =>
    (breaks_own (hK.out.1.below hb2) (Nat.le_trans hK.out.2.2.2 (bt hK.out.2.1 hb2).size) 1 true).mono fun e w' ⟨h1, h2, h3⟩ => ⟨h1, h2, (Kept.of_below (bt hK.out.2.1 hb2)).trans h3⟩
  have HF := Lib.hid fail1
  obtain ⟨cx, hcx⟩ : ∃ cx, cx = evA x := ⟨_, rfl⟩
  obtain ⟨lb, hlb⟩ : ∃ lb, lb = M.c.lb := ⟨_, rfl⟩
  obtain ⟨nb, hnb⟩ : ∃ nb, nb = M.c.nb := ⟨_, rfl⟩
  obtain ⟨proc, hproc⟩ : ∃ p, p = x.proc := ⟨_, rfl⟩
  obtain ⟨ce, hce⟩ : ∃ p, p = x.ce := ⟨_, rfl⟩
  obtain ⟨cr, hcr⟩ : ∃ p, p = x.cr := ⟨_, rfl⟩
  have hs : stayOf M x = match get M.now proc with
    | none => none
    | some k => match M.stays[k]? with
      | none => none
      | some s => if (get M.live proc).getD false = true ∧ s.s.ce = ce ∧ s.s.cr = cr then some k else none := by rw [hproc, hce, hcr]; rfl
  have z1 : cx.all (·.oneCell') = true := by rw [hcx]; simp [evA, Value.oneCell']
  have z2 : cx.size = 19 := by rw [hcx]; rfl
  rw [← hcx] at hw1 ⊢
  have HCX := Lib.hid hcx
  rw [← hlb, ← hproc] at hlv
  rw [← hnb, ← hproc] at hnw
  rw [← hlb] at c4
  rw [← hnb] at c5
  rw [← hproc] at e1
  rw [← hce] at e2
  rw [← hcr] at e3
  rw [hs]
  clear hcx hx1 fail1 hlb hnb hproc hce hcr hs hO1 hb1 hM hb0 hO
  cases hn : get M.now proc with
  | none =>
    rw [hn] at hnw
    simp only [Option.map_none, Option.getD_none] at hnw
    go_enter Try.func19, Try.ntmps19
    go_wp2_with fail
    rw [← hw1, ← hX]
    clear hw1 hX
    refine wp_region_bel (by kernel_rfl) (by kernel_rfl) ?_
    repeat (go_big_quiet_step ((fail)))
    refine wpQuiet_nil ?_
    intro w2 hw2
    have hb2 := bel_out hw2
    clear hw2 hnw
    have c4 : ∀ y : Bel w2, y.val.cell? ⟨B, 4, none⟩ = _ := fun y => c4 ⟨y.val, bt hb2 y.prop⟩
    have e1 : ∀ y : Bel w2, y.val.cell? ⟨X, 1, none⟩ = _ := fun y => e1 ⟨y.val, bt hb2 y.prop⟩
    have hlv : ∀ y : Bel w2, (Instr.lookup 51 (.map (some lb)) (.int .i64 proc) false).run Try.prog y.val = .ok (.bool ((get M.live proc).getD false)) y.val := fun y => hlv ⟨y.val, bt hb2 y.prop⟩
    clear c5 e2 e3
    generalize (get M.live proc).getD false = L at *
    cases L
    all_goals
      go_wp2_with fail
      refine wp_region_bel (by kernel_rfl) (by kernel_rfl) ?_
      repeat (go_big_quiet_step ((fail)))
      refine wpQuiet_nil ?_
      intro w3 hw3
      have hb3 := bt hb2 (bel_out hw3)
      have HG := Lib.hid (HF.out w3 hb3)
      clear hw3 hlv c4 e1
      go_wp2_with fail
      refine HG.out.mono ?_
      rintro e w4 ⟨rfl, hE⟩
      have HE := Lib.hid hE
      clear hE
      go_wp2_with fail
      go_ret
      exact Or.inr ⟨trivial, rfl, HE.out⟩
  | some k =>
    have hkl := now_lt hK.out.2.2.1 hn
    rw [hn] at hnw
    simp only [Option.map_some, Option.getD_some, nth_at hkl] at hnw
    have hst := own_stay hK.out.1 (List.getElem_mem hkl)
    simp only [List.getElem?_eq_getElem hkl]
    obtain ⟨s, hs⟩ : ∃ s, s = M.stays[k] := ⟨_, rfl⟩
    rw [← hs] at hst hnw ⊢
    have s2 := Bel.cell (show w1.cell? ⟨s.b, 1, none⟩ = some (.int .u64 (s.s.ce : Int)) from cell_of_row _ _ 1 _ _ _ hst) hst.lt
    have s3 := Bel.cell (show w1.cell? ⟨s.b, 2, none⟩ = some (.int .i64 s.s.cr) from cell_of_row _ _ 2 _ _ _ hst) hst.lt
    have hcn := fun (W : World) => confNeq W (s.s.ce : Int) s.s.cr (ce : Int) cr
    have HD := Lib.hid (show (!(((s.s.ce : Int) == (ce : Int)) && (s.s.cr == cr))) = false ↔ s.s.ce = ce ∧ s.s.cr = cr from by simp [Int.natCast_inj])
    obtain ⟨I, hI⟩ : ∃ I, I = (if (get M.live proc).getD false = true ∧ s.s.ce = ce ∧ s.s.cr = cr then some k else none) := ⟨_, rfl⟩
    rw [← hI]
    have HI := Lib.hid hI
    clear hI
    generalize (!(((s.s.ce : Int) == (ce : Int)) && (s.s.cr == cr))) = D at *
    have hfin : ∃ kk, ∃ hk : kk < M.stays.length, (some k : Option Nat) = some kk ∧ ptrV s.b = ptrV M.stays[kk].b := ⟨k, hkl, rfl, by rw [hs]⟩
    have HFin := Lib.hid hfin
    clear hst hs hfin
    generalize s.s.ce = ce' at *
    generalize s.s.cr = cr' at *
    unfold ptrV at hnw
    generalize s.b = S at *
    go_enter Try.func19, Try.ntmps19
    go_wp2_with fail
    rw [← hw1, ← hX]
    clear hw1 hX
    refine wp_region_bel (by kernel_rfl) (by kernel_rfl) ?_
    repeat (go_big_quiet_step ((fail)))
    refine wpQuiet_nil ?_
    intro w2 hw2
    have hb2 := bel_out hw2
    clear hw2 hnw
    have c4 : ∀ y : Bel w2, y.val.cell? ⟨B, 4, none⟩ = _ := fun y => c4 ⟨y.val, bt hb2 y.prop⟩
    have e1 : ∀ y : Bel w2, y.val.cell? ⟨X, 1, none⟩ = _ := fun y => e1 ⟨y.val, bt hb2 y.prop⟩
    have e2 : ∀ y : Bel w2, y.val.cell? ⟨X, 2, none⟩ = _ := fun y => e2 ⟨y.val, bt hb2 y.prop⟩
    have e3 : ∀ y : Bel w2, y.val.cell? ⟨X, 3, none⟩ = _ := fun y => e3 ⟨y.val, bt hb2 y.prop⟩
    have s2 : ∀ y : Bel w2, y.val.cell? ⟨S, 1, none⟩ = _ := fun y => s2 ⟨y.val, bt hb2 y.prop⟩
    have s3 : ∀ y : Bel w2, y.val.cell? ⟨S, 2, none⟩ = _ := fun y => s3 ⟨y.val, bt hb2 y.prop⟩
    have hlv : ∀ y : Bel w2, (Instr.lookup 51 (.map (some lb)) (.int .i64 proc) false).run Try.prog y.val = .ok (.bool ((get M.live proc).getD false)) y.val := fun y => hlv ⟨y.val, bt hb2 y.prop⟩
    clear c5
    generalize (get M.live proc).getD false = L at *
    by_cases hq : L = true ∧ D = false
    · obtain ⟨rfl, rfl⟩ := hq
      have HJ := Lib.hid (HI.out.trans (if_pos ⟨rfl, HD.out.1 rfl⟩))
      clear HI
      go_wp2_with fail
      refine wp_region_bel (by kernel_rfl) (by kernel_rfl) ?_
      repeat (go_big_quiet_step ((fail)))
      refine wpQuiet_nil ?_
      intro w3 hw3
      have hb3 := bt hb2 (bel_out hw3)
      have HB := Lib.hid (bt hK.out.2.1 hb3)
      clear hw3 hlv c4 e1
      go_wp2_with fail
      go_ret
      obtain ⟨kk, hk, h1, h2⟩ := HFin.out
      refine Or.inl ⟨kk, hk, HJ.out.trans h1, ?_, HB.out⟩
      rw [← h2]
      rfl
    · have HJ := Lib.hid (HI.out.trans (if_neg (fun h => hq ⟨h.1, HD.out.2 h.2⟩)))
      clear HI
      clear HD HFin
      cases L
      rotate_left
      all_goals try (cases D; (exact absurd ⟨rfl, rfl⟩ hq))
      all_goals
        clear hq
        go_wp2_with fail
        refine wp_region_bel (by kernel_rfl) (by kernel_rfl) ?_
        repeat (go_big_quiet_step ((fail)))
        refine wpQuiet_nil ?_
        intro w3 hw3
        have hb3 := bt hb2 (bel_out hw3)
        have HG := Lib.hid (HF.out w3 hb3)
        clear hw3 hlv c4 e1 e2 e3 s2 s3 hcn
        go_wp2_with fail
        refine HG.out.mono ?_
        rintro e w4 ⟨rfl, hE⟩
        have HE := Lib.hid hE
        clear hE
        go_wp2_with fail
        go_ret
        exact Or.inr ⟨HJ.out, rfl, HE.out⟩
end Go.Proofs.Ytogagkgkmoppmaa
