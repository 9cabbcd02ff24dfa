/-
  What a body's reader reads of any kind; what Parse's deferred function does.
  Conditions: those that each theorem names.
-/
import Derived.Test.YtgpojbmloielmaaReadG
import Derived.Test.YtgpojbmloielmaaPackO
namespace Go.Proofs.Ytgpojbmloielmaa
set_option linter.unusedVariables false
set_option linter.unusedSimpArgs false
open Go.RowKit
theorem fld_rd {w : World} {R Pb : Nat} {s : ByteArray} {l0 : List UInt8} (h : RdL w R s l0) (k f t : Int) (hk : 1 ≤ k ∧ k ≤ 11) (hp : w.heap[Pb]? = some (.cells (pktA { zeroP with kind := k, frm := f, dst := t }) 35 (0, 0))) (hne : Pb ≠ R) :
    Calls Try.prog 23 #[.agg #[.pointer (some ⟨R, 0, none⟩)], .pointer (some ⟨Pb, 0, none⟩)] w fun e w' => FldEnd R Pb s w (rdBody k f t l0) e w' := by
  rcases kind_cases hk with e | e | e | e | e | e | e | e | e | e | e <;> subst e
  · exact fld1_rd h f t hp hne
  · exact fld2_rd h f t hp hne
  · exact fld3_rd h f t hp hne
  · exact fld4_rd h f t hp hne
  · exact fld5_rd h f t hp hne
  · exact fld6_rd h f t hp hne
  · exact fld7_rd h f t hp hne
  · exact fld8_rd h f t hp hne
  · exact fld9_rd h f t hp hne
  · exact fld10_rd h f t hp hne
  · exact fld11_rd h f t hp hne
theorem bld0 : Try.prog.built 35 [] = some (pktA zeroP) := by kernel_rfl
set_option maxHeartbeats 2000000 in
theorem parseD_pan (A B : Nat) (z c : Int) (older : List PanicEntry) (w : World) (C : Array Value) (hA : w.heap[A]? = some (.cells C 35 (0, 0))) (hC : C.size = 22) (hB : w.heap[B]? = some (.cells #[.int .i64 z] 36 (0, 0))) (hne : A ≠ B) :
    CallsD Try.prog 21 #[.pointer (some ⟨A, 0, none⟩), .pointer (some ⟨B, 0, none⟩)] (.panicking ({ v := .iface 36 (.int .i64 c), recovered := false } :: older)) w fun e u' w' =>
      e = .returned (.tuple #[]) ∧ u' = .panicking ({ v := .iface 36 (.int .i64 c), recovered := true } :: older) ∧ w' = (w.setRow A (pktA zeroP)).setCell ⟨B, 0, none⟩ (.int .i64 c) := by
  obtain ⟨Z, hZ⟩ : ∃ Z, Z = pktA zeroP := ⟨_, rfl⟩
  have hb0 := bld0
  rw [← hZ] at hb0
  have hZ1 : Z.size = 22 := by rw [hZ]; rfl
  have hZ2 : Z.all (·.oneCell') = true := by rw [hZ]; exact oneCell_pktA _
  rw [← hZ]
  clear hZ
  have hB2 : (w.setRow A Z).heap[B]? = some (.cells #[.int .i64 z] 36 (0, 0)) := (kept_setRow w A Z).keep hB (fun e => hne e.symm)
  have c1 : (w.setRow A Z).cell? ⟨B, 0, none⟩ = some (.int .i64 z) := cell_of_row _ _ 0 _ _ _ hB2
  have f1 : (w.setRow A Z).frozen? ⟨B, 0, none⟩ = false := frozen_of_row _ _ _ _ _ hB2
  refine callsD_of_wpS Try.func21 rfl fun c₀ cs hu => ?_
  apply wpS_seq
  apply wpS_region
  simp [wpOpsS, go_sem, recoverD, hu, Try.ntmps21, Exit.thenS, assert_is]
  apply wpS_seq
  apply wpS_region
  simp [wpOpsS, go_sem, Exit.thenS]
  refine wpS_cond (t := true) (by simp [Act.eval, Array.replicate]) ?_
  simp only [if_true]
  refine wpS_of_wp ?_
  refine wp_region_lit ?_
  refine wpList_buildZ rfl 35 #[] rfl Z (by simp only [List.map_toArray, List.map_nil]; exact hb0) ?_
  refine wpList_step (fun K hK => ?_)
  go_simp
  refine hK _ _ ?_
  clear hK K
  refine wpList_store_row rfl 35 (.tmp 0) (.tmp 10) rfl A Z (by simp [Act.eval, Act.put, Array.replicate]) (by simp [Act.eval, Act.put, Array.replicate]) 35 C hA (by rw [hZ1]; kernel_rfl) (by rw [hC, hZ1]) hZ2 ?_
  refine wpList_step (fun K hK => ?_)
  go_simp
  refine hK _ _ ?_
  clear hK K
  refine wpList_nil ?_
  simp [bodyPostS, results, Try.results21]
theorem parseD_ret (p q : Addr) (w : World) :
    CallsD Try.prog 21 #[.pointer (some p), .pointer (some q)] .returning w fun e u' w' => e = .returned (.tuple #[]) ∧ u' = .returning ∧ w' = w := by
  refine callsD_of_wpS Try.func21 rfl fun c₀ cs hu => ?_
  apply wpS_seq
  apply wpS_region
  simp [wpOpsS, go_sem, recoverD, hu, Try.ntmps21, Exit.thenS, assert_no]
  apply wpS_seq
  apply wpS_region
  simp [wpOpsS, go_sem, Exit.thenS]
  refine wpS_cond (t := false) (by simp [Act.eval, Array.replicate]) ?_
  simp only [Bool.false_eq_true, if_false]
  refine wpS_of_wp (wp_skip ?_)
  cases c₀
  simp_all [bodyPostS, results, Try.results21]
end Go.Proofs.Ytgpojbmloielmaa
