/-
  The reference's order: Trim, Rest.
  Conditions: those that each theorem names.
-/
import Derived.Test.YtgjlcjbmcnofiaaDoorPlD
namespace Go.Proofs.YtgjlcjbmcnofiaaDoor
set_option linter.unusedVariables false
set_option linter.unusedSimpArgs false
open Go.RowKit
theorem there_of {w : World} {g t : Nat} {cs : Array Value} (h : w.heap[g]? = some (.cells cs t (0, 0))) {o n : Nat} (hn : o + n ≤ cs.size) : w.there g o n := fun j hj => by
  refine ⟨?_, frozen_of_row _ _ _ _ _ h⟩
  rw [cell_of_row _ _ (o + j) _ _ _ h, Array.getElem?_eq_getElem (by omega)]
  rfl
theorem rangeAt_of {w : World} {g t : Nat} {cs ds : Array Value} {fr : Nat × Nat} {o : Nat} (h : w.heap[g]? = some (.cells cs t fr)) (hd : ∀ j, j < ds.size → cs[o + j]? = ds[j]?) : w.rangeAt g o ds.toList := fun j u hu => by
  have hj : j < ds.size := by have := (List.getElem?_eq_some_iff.1 hu).1; simpa using this
  rw [cell_of_row _ _ (o + j) _ _ _ h, hd j hj]
  simpa using hu
section
variable {w : World} {N : Nat} {S : RO} {va vz : Value}
theorem ro_H (h : w.heap[N]? = some (.cells (rfC S va vz) 73 (0, 0))) : w.rangeAt N 2 (refX va S.lo).toList := rangeAt_of h fun j hj => rf_H S va vz (by rw [refX_size] at hj; exact hj)
theorem ro_Z (h : w.heap[N]? = some (.cells (rfC S va vz) 73 (0, 0))) : w.rangeAt N 67 (hrC S.c S.oth vz).toList := rangeAt_of h fun j hj => rf_Z S va vz (by rw [hrC_size] at hj; exact hj)
theorem ro_setH (h : w.heap[N]? = some (.cells (rfC S va vz) 73 (0, 0))) (u : Value) (lo' : Nat → Nat) (A' : List Msg) : (w.setCells N 2 (refX u lo').toList).heap[N]? = some (.cells (rfC { S with lo := lo', A := A' } u vz) 73 (0, 0)) := by
  rw [setCells_at _ 2 w _ h (by rw [Array.length_toList, refX_size, rfC_size]; omega), rf_setH]
theorem ro_setZ (h : w.heap[N]? = some (.cells (rfC S va vz) 73 (0, 0))) (c' : Nat) (u : Value) (T' : List Tld) : (w.setCells N 67 (hrC c' S.oth u).toList).heap[N]? = some (.cells (rfC { S with c := c', T := T' } va u) 73 (0, 0)) := by
  rw [setCells_at _ 67 w _ h (by rw [Array.length_toList, hrC_size, rfC_size]; omega), rf_setZ]
theorem ro_setL (h : w.heap[N]? = some (.cells (rfC S va vz) 73 (0, 0))) (s : Nat) (f : Int) : (w.setCells N 197 [Value.int .u64 (s : Int), Value.int .i64 f]).heap[N]? = some (.cells (rfC { S with ls := s, lf := f } va vz) 73 (0, 0)) := by
  rw [setCells_at _ 197 w _ h (by rw [rfC_size]; simp), rf_setL]
end
/-- what a function of the reference's order leaves in its two first blocks: the order, the result -/
structure RoTwo (w : World) (X Z : Array Value) (wr : World) : Prop where
  blk : wr.heap[w.heap.size]? = some (.cells X 73 (0, 0))
  res : wr.heap[w.heap.size + 1]? = some (.cells Z 73 (0, 0))
  bel : Below w.heap.size w wr
theorem RoTwo.below {w wr w' : World} {X Z : Array Value} (h : RoTwo w X Z wr) (hb : Below wr.heap.size wr w') : RoTwo w X Z w' :=
  ⟨(hb.block _ (Array.getElem?_eq_some_iff.1 h.blk).1).trans h.blk, (hb.block _ (Array.getElem?_eq_some_iff.1 h.res).1).trans h.res, bt h.bel hb⟩
theorem RoTwo.new (w : World) (X Z : Array Value) : RoTwo w X Z ((w.alloc (.cells X 73)).alloc (.cells Z 73)) := by
  have h0 := heap_alloc2_old w (.cells X 73) (.cells Z 73)
  have h1 := heap_alloc2_new w (.cells X 73) (.cells Z 73)
  exact ⟨h0, h1, ba (ba (br w) _) _⟩
theorem RoTwo.set {w wr w' : World} {X X' Z : Array Value} (h : RoTwo w X Z wr) (hk : Kept (fun b => b = w.heap.size) wr w') (hx : w'.heap[w.heap.size]? = some (.cells X' 73 (0, 0))) : RoTwo w X' Z w' :=
  ⟨hx, hk.keep h.res (by omega), hk.out h.bel h.bel.size (fun b hb e => by omega)⟩
theorem RoTwo.same {w wr : World} {X Z : Array Value} (h : RoTwo w X Z wr) (hz : Z.size = 199) (X' : Array Value) (hx : X' = X) (S : RO) (va vz : Value) (hS : X = rfC S va vz) (h1 : va.oneCell' = true) (h2 : vz.oneCell' = true) :
    wr.heap[w.heap.size]? = some (.cells X' 73 (0, 0)) ∧ (Tryd.prog.info? 73).map (·.size) = some X'.size ∧ Z.size = X'.size ∧ X'.all (·.oneCell') = true := by
  subst hx
  subst hS
  exact ⟨h.blk, rfSize, by rw [hz, rfC_size], rfC_one _ _ _ h1 h2⟩
/-- the first dropped -/
def trimR (S : RO) (p : Int) (u : Nat) : RO := if 0 ≤ p ∧ p < 64 then { S with lo := dropA S.A S.lo p (min u (S.dn p.toNat)) } else S
set_option maxRecDepth 100000 in
set_option maxHeartbeats 8000000 in
theorem rTrim_any (S : RO) (va vz : Value) (p : Int) (u : Nat) (w : World) (ha : RowsIn w va S.A) (hl : S.A.length ≤ 1000) (hu : u < 4294967296) (h2 : vz.oneCell' = true) :
    Calls Tryd.prog 60 #[.agg (rfC S va vz), .int .i64 p, .int .u32 (u : Int)] w fun e w' => e = .returned (.agg (rfC (trimR S p u) va vz)) ∧ Below w.heap.size w w' := by
  have hz := zeroR_run
  obtain ⟨Z, hZ⟩ : ∃ Z, Z = zeroR := ⟨_, rfl⟩
  have hZs : Z.size = 199 := by rw [hZ]; unfold zeroR; rw [rfC_size]
  rw [← hZ] at hz
  have h1 : va.oneCell' = true := by obtain ⟨ad, cap, rfl, _⟩ := ha; rfl
  obtain ⟨X, hX⟩ : ∃ X, X = rfC S va vz := ⟨_, rfl⟩
  rw [← hX]
  obtain ⟨W, hW⟩ : ∃ W, W = (w.alloc (.cells X 73)).alloc (.cells Z 73) := ⟨_, rfl⟩
  have HT := Lib.hid (show RoTwo w X Z W from by rw [hW]; exact .new w X Z)
  have HQ := Lib.hid (And.intro ha (And.intro hl (And.intro hu (And.intro h1 (And.intro h2 (And.intro hX hZs))))))
  have HW := Lib.hid hW
  clear hZ hZs hX ha hl hu h1 h2 hW
  go_enter Tryd.func60, Tryd.ntmps60
  go_upto_region 1 with (fail)
  rw [← HW.out]
  clear HW hz
  by_cases hp : 0 ≤ p ∧ p < 64
  · obtain ⟨q, rfl⟩ := Int.eq_ofNat_of_zero_le hp.1
    have hq64 : q < 64 := by omega
    have d0 : decide ((q : Int) < 0) = false := by simp
    have d1 : decide (63 < (q : Int)) = false := by simp; omega
    have hqi : (q : Int) < 64 := hp.2
    have HTR := Lib.hid (show trimR S (q : Int) u = { S with lo := dropA S.A S.lo (q : Int) (min u (S.dn q)) } from by unfold trimR; rw [if_pos hp, Int.toNat_natCast])
    have cd : W.cell? ⟨w.heap.size, 133 + q, none⟩ = some (.int .u32 (S.dn q : Int)) := by rw [cell_of_row _ _ (133 + q) _ _ _ HT.out.blk, HQ.out.2.2.2.2.2.1, rf_dn _ _ _ hq64]
    have hkey : ∀ (n : Nat), n = min u (S.dn q) → True := fun _ _ => trivial
    obtain ⟨dq, hdq⟩ : ∃ z, z = S.dn q := ⟨_, rfl⟩
    rw [← hdq] at HTR cd
    obtain ⟨n, hn⟩ : ∃ n, n = min u dq := ⟨_, rfl⟩
    rw [← hn] at HTR
    have HBK := Lib.hid (show W.heap[w.heap.size]? = some (.cells (rfC S va vz) 73 (0, 0)) from by rw [← HQ.out.2.2.2.2.2.1]; exact HT.out.blk)
    have HDR := Lib.hid (rDrop_any va S.lo S.A (q : Int) n W (HQ.out.1.below HT.out.bel) HQ.out.2.1)
    have HRA := Lib.hid (ro_H HBK.out)
    obtain ⟨L, hL⟩ : ∃ L, L = (refX va S.lo).toList := ⟨_, rfl⟩
    have hLa : refX va S.lo = L.toArray := by rw [hL]
    have hCs : (Tryd.prog.info? 67).map (·.size) = some L.length := by rw [hL, Array.length_toList]; exact sizeX
    rw [hLa] at HDR
    rw [← hL] at HRA
    obtain ⟨C', hC'⟩ : ∃ C', C' = refX va (dropA S.A S.lo (q : Int) n) := ⟨_, rfl⟩
    rw [← hC'] at HDR
    have HCC := Lib.hid (And.intro hCs (And.intro (show (Tryd.prog.info? 67).map (·.size) = some C'.size from by rw [hC']; exact sizeX) (And.intro (show C'.all (·.oneCell') = true from by rw [hC']; exact refX_one _ _ HQ.out.2.2.2.1) hC')))
    have hn' : n = if dq < u then dq else u := by rw [hn]; split <;> omega
    clear hL hLa hCs hC' hdq hp hkey hn
    have HND := Lib.hid hn'
    have HQ64 := Lib.hid hq64
    clear hn' hq64
    by_cases hlt : dq < u
    · have d2 : decide ((dq : Int) < (u : Int)) = true := by simp; omega
      have d2' : decide (dq < u) = true := by simpa using hlt
      have e1 := HND.out
      rw [if_pos hlt] at e1
      subst e1
      clear hlt HND
      go_wp2_with (first
        | (with_reducible refine wpList_load_mid rfl 67 (.tmp 24) rfl w.heap.size 2 rfl L _ HRA.out Tryd.underlying67 rfl HCC.out.1 ?_)
        | fail)
      refine HDR.out.mono ?_
      rintro e w3 ⟨rfl, hb3⟩
      have HT3 := Lib.hid (HT.out.below hb3)
      have h3 : w3.heap[w.heap.size]? = some (.cells (rfC S va vz) 73 (0, 0)) := by rw [← HQ.out.2.2.2.2.2.1]; exact HT3.out.blk
      have HTH := Lib.hid (there_of h3 (o := 2) (n := C'.size) (by rw [HCC.out.2.2.2, refX_size, rfC_size]; omega))
      have h4 := ro_setH h3 va (dropA S.A S.lo (q : Int) n) S.A
      rw [← HCC.out.2.2.2] at h4
      obtain ⟨X2, hX2⟩ : ∃ X2, X2 = rfC { S with lo := dropA S.A S.lo (q : Int) n, A := S.A } va vz := ⟨_, rfl⟩
      rw [← hX2] at h4
      have ht4 := HT3.out.set (keptSetCells w.heap.size C'.toList 2 w3) h4
      have HE := Lib.hid (ht4.same HQ.out.2.2.2.2.2.2 X2 rfl _ va vz hX2 HQ.out.2.2.2.1 HQ.out.2.2.2.2.1)
      have HR4 := Lib.hid (And.intro ht4.res (And.intro ht4.bel (show X2 = rfC (trimR S (q : Int) u) va vz from by rw [hX2, HTR.out])))
      generalize hw4 : w3.setCells w.heap.size 2 C'.toList = w4 at *
      have HW4 := Lib.hid hw4
      clear hb3 h3 h4 hX2 ht4 HDR HRA hw4
      go_upto_region 6 with (first
        | (with_reducible refine wpList_store_mid rfl 67 (.tmp 29) (.tmp 28) rfl w.heap.size 2 C' rfl rfl HTH.out HCC.out.2.1 HCC.out.2.2.1 ?_)
        | fail)
      simp only [Act.put]
      rw [HW4.out]
      clear HW4 HTH
      go_wp2_with (first
        | (with_reducible refine wpList_load_row rfl 73 (.tmp 3) rfl w.heap.size rfl 73 X2 (0, 0) _ HE.out.1 Tryd.underlying73 rfl HE.out.2.1 ?_)
        | (with_reducible refine wpList_store_row rfl 73 (.tmp 6) (.tmp 30) rfl (w.heap.size + 1) X2 rfl rfl 73 _ HR4.out.1 HE.out.2.1 HE.out.2.2.1 HE.out.2.2.2 ?_)
        | fail)
      exact bodyPost_ret (results_cell_row Tryd.results60 _ _ (w.heap.size + 1) 73 X2 (0, 0) _ rfl (setRow_heap _ _ _ _ _ _ HR4.out.1) Tryd.underlying73 rfl HE.out.2.1) rfl ⟨by rw [HR4.out.2.2], bsr' HR4.out.2.1 (by omega) X2⟩
    · have d2 : decide ((dq : Int) < (u : Int)) = false := by simp; omega
      have d2' : decide (dq < u) = false := by simpa using hlt
      have e1 := HND.out
      rw [if_neg hlt] at e1
      subst e1
      clear hlt HND
      go_wp2_with (first
        | (with_reducible refine wpList_load_mid rfl 67 (.tmp 24) rfl w.heap.size 2 rfl L _ HRA.out Tryd.underlying67 rfl HCC.out.1 ?_)
        | fail)
      refine HDR.out.mono ?_
      rintro e w3 ⟨rfl, hb3⟩
      have HT3 := Lib.hid (HT.out.below hb3)
      have h3 : w3.heap[w.heap.size]? = some (.cells (rfC S va vz) 73 (0, 0)) := by rw [← HQ.out.2.2.2.2.2.1]; exact HT3.out.blk
      have HTH := Lib.hid (there_of h3 (o := 2) (n := C'.size) (by rw [HCC.out.2.2.2, refX_size, rfC_size]; omega))
      have h4 := ro_setH h3 va (dropA S.A S.lo (q : Int) n) S.A
      rw [← HCC.out.2.2.2] at h4
      obtain ⟨X2, hX2⟩ : ∃ X2, X2 = rfC { S with lo := dropA S.A S.lo (q : Int) n, A := S.A } va vz := ⟨_, rfl⟩
      rw [← hX2] at h4
      have ht4 := HT3.out.set (keptSetCells w.heap.size C'.toList 2 w3) h4
      have HE := Lib.hid (ht4.same HQ.out.2.2.2.2.2.2 X2 rfl _ va vz hX2 HQ.out.2.2.2.1 HQ.out.2.2.2.2.1)
      have HR4 := Lib.hid (And.intro ht4.res (And.intro ht4.bel (show X2 = rfC (trimR S (q : Int) n) va vz from by rw [hX2, HTR.out])))
      generalize hw4 : w3.setCells w.heap.size 2 C'.toList = w4 at *
      have HW4 := Lib.hid hw4
      clear hb3 h3 h4 hX2 ht4 HDR HRA hw4
      go_upto_region 6 with (first
        | (with_reducible refine wpList_store_mid rfl 67 (.tmp 29) (.tmp 28) rfl w.heap.size 2 C' rfl rfl HTH.out HCC.out.2.1 HCC.out.2.2.1 ?_)
        | fail)
      simp only [Act.put]
      rw [HW4.out]
      clear HW4 HTH
      go_wp2_with (first
        | (with_reducible refine wpList_load_row rfl 73 (.tmp 3) rfl w.heap.size rfl 73 X2 (0, 0) _ HE.out.1 Tryd.underlying73 rfl HE.out.2.1 ?_)
        | (with_reducible refine wpList_store_row rfl 73 (.tmp 6) (.tmp 30) rfl (w.heap.size + 1) X2 rfl rfl 73 _ HR4.out.1 HE.out.2.1 HE.out.2.2.1 HE.out.2.2.2 ?_)
        | fail)
      exact bodyPost_ret (results_cell_row Tryd.results60 _ _ (w.heap.size + 1) 73 X2 (0, 0) _ rfl (setRow_heap _ _ _ _ _ _ HR4.out.1) Tryd.underlying73 rfl HE.out.2.1) rfl ⟨by rw [HR4.out.2.2], bsr' HR4.out.2.1 (by omega) X2⟩
  · have HP := Lib.hid hp
    by_cases h0 : p < 0
    · have d0 : decide (p < 0) = true := by simpa using h0
      clear hp h0
      have HTR := Lib.hid (show trimR S p u = S from by unfold trimR; rw [if_neg HP.out])
      have HE := Lib.hid (HT.out.same HQ.out.2.2.2.2.2.2 X rfl S va vz HQ.out.2.2.2.2.2.1 HQ.out.2.2.2.1 HQ.out.2.2.2.2.1)
      go_wp2_with (first
        | (with_reducible refine wpList_load_row rfl 73 (.tmp 3) rfl w.heap.size rfl 73 X (0, 0) _ HE.out.1 Tryd.underlying73 rfl HE.out.2.1 ?_)
        | (with_reducible refine wpList_store_row rfl 73 (.tmp 6) (.tmp 13) rfl (w.heap.size + 1) X rfl rfl 73 _ HT.out.res HE.out.2.1 HE.out.2.2.1 HE.out.2.2.2 ?_)
        | fail)
      exact bodyPost_ret (results_cell_row Tryd.results60 _ _ (w.heap.size + 1) 73 X (0, 0) _ rfl (setRow_heap _ _ _ _ _ _ HT.out.res) Tryd.underlying73 rfl HE.out.2.1) rfl ⟨by rw [HTR.out, HQ.out.2.2.2.2.2.1], bsr' HT.out.bel (by omega) X⟩
    · have d0 : decide (p < 0) = false := by simpa using h0
      have d1 : decide (63 < p) = true := by simp; omega
      clear hp h0
      have HTR := Lib.hid (show trimR S p u = S from by unfold trimR; rw [if_neg HP.out])
      have HE := Lib.hid (HT.out.same HQ.out.2.2.2.2.2.2 X rfl S va vz HQ.out.2.2.2.2.2.1 HQ.out.2.2.2.1 HQ.out.2.2.2.2.1)
      go_wp2_with (first
        | (with_reducible refine wpList_load_row rfl 73 (.tmp 3) rfl w.heap.size rfl 73 X (0, 0) _ HE.out.1 Tryd.underlying73 rfl HE.out.2.1 ?_)
        | (with_reducible refine wpList_store_row rfl 73 (.tmp 6) (.tmp 13) rfl (w.heap.size + 1) X rfl rfl 73 _ HT.out.res HE.out.2.1 HE.out.2.2.1 HE.out.2.2.2 ?_)
        | fail)
      exact bodyPost_ret (results_cell_row Tryd.results60 _ _ (w.heap.size + 1) 73 X (0, 0) _ rfl (setRow_heap _ _ _ _ _ _ HT.out.res) Tryd.underlying73 rfl HE.out.2.1) rfl ⟨by rw [HTR.out, HQ.out.2.2.2.2.2.1], bsr' HT.out.bel (by omega) X⟩
end Go.Proofs.YtgjlcjbmcnofiaaDoor
