/-
  'Rows.FrameSizeSaid': for every input the law returns true, and each argument reads behind the call as it did.
  Conditions: none.
-/
import Derived.Test.YtchonlodehogpaaRows
import Derived.Test.YtchonlodehogpaaRow
import Derived.Test.YtchonlodehogpaaFrameN
namespace Go.Proofs.Ytchonlodehogpaa.frameSize
open Go.ChangeShapes Go.WideShapes Go.ChangeAt Go.RowKit
open Go.ChangeMaps (open_string shut_string)
set_option linter.unusedVariables false
theorem own : ownKnob Try.prog.godebug = none := by kernel_rfl
set_option maxRecDepth 100000 in
theorem lifted (os : Os) (started : os.Started) (H : Type) (enc : TypeId × Value → H) :
    ReturnsInHanded {} Try.checked os 12 .any (Rows.frameSizeSpec.pre6 enc Try.prog Try.f12 Rows.frameSizeRow.domain false) (Rows.frameSizeSpec.post enc Try.prog Try.f12 false true false false) := by
  refine returnsInHanded_of_change (C := Try.checked) own started (by kernel_rfl) Try.func12
    (ChangeSpec.witness6 (enc := enc) (C := Try.checked) false ⟨#[], #[.agg #[.int .i64 0, .int .i64 0, .int .i64 0, .string ByteArray.empty]], []⟩ 8 (by kernel_rfl) (by kernel_rfl) (by kernel_rfl) (by kernel_rfl)) ?_
  intro W base args ds gs before hval0 hW hcnd _
  have hval : ∀ (j : Nat) t v, Try.f12.params[j]? = some t → args[j]? = some v → Value.okWide Try.prog W .any base t v := hval0
  have hW0 := hW
  obtain ⟨p, q, hA0, hV, hbef, hfz, hnd⟩ := hW
  have hA : DataW.TrodAll enc Try.prog W 0 (fun _ => true) true Try.f12.params.toList args.toList ds p := hA0
  rw [Try.params12] at hA hval
  obtain ⟨v0, vs0, d0, ds0, p0, q0, hargs, rfl, rfl, h0, r0⟩ := trodAll_cons hA
  obtain ⟨rfl, rfl, rfl⟩ := trodAll_nil r0
  obtain rfl : args = #[v0] := by cases args; simp_all
  obtain ⟨rfl, rfl⟩ := trodVars_none hV
  have fin : ∀ (e : Ending) W', (e = .returned (.bool true) ∧ Below W.heap.size W W') → ∃ v, e = .returned v ∧ Rows.frameSizeSpec.post enc Try.prog Try.f12 false true false false W #[v0] v W' := by
    rintro e W' ⟨rfl, hb⟩
    exact ⟨_, rfl, law_post (by kernel_rfl) (by intro t ht; rw [Try.params12] at ht; simp only [List.mem_cons, List.not_mem_nil, or_false] at ht; subst ht; exact ⟨by kernel_rfl, of_decide_eq_true (by kernel_rfl)⟩) hW0 rfl (by kernel_rfl) Try.underlying4 rfl rfl rfl hb⟩
  clear hA0 hval0 hW0
  obtain ⟨u0_0, u0_1, u0_2, u0_3, y0_0, y0_1, y0_2, y0_3, _, rfl, rfl, rfl, q0_0, q0_1, q0_2, q0_3⟩ := Go.Joins.open_agg4 Try.underlying37 (by kernel_rfl) (by kernel_rfl) (hval 0 37 v0 rfl rfl) h0
  obtain ⟨b0_0, e0_0, f0_0, g0_0⟩ := DataW.trod_int Try.underlying3 q0_0
  simp only [List.cons.injEq, and_true] at e0_0
  subst e0_0
  obtain ⟨b0_1, e0_1, f0_1, g0_1⟩ := DataW.trod_int Try.underlying3 q0_1
  simp only [List.cons.injEq, and_true] at e0_1
  subst e0_1
  obtain ⟨b0_2, e0_2, f0_2, g0_2⟩ := DataW.trod_int Try.underlying3 q0_2
  simp only [List.cons.injEq, and_true] at e0_2
  subst e0_2
  obtain ⟨b0_3, e0_3, f0_3, g0_3⟩ := DataW.trod_string Try.underlying9 q0_3
  simp only [List.cons.injEq, and_true] at e0_3
  subst e0_3
  exact (law_frameSize b0_0 b0_1 b0_2 b0_3 W (by have := g0_3; unfold maxLen at this; exact this)).mono fin
theorem over : Rows.frameSizeRow.holds Try.pinned (OpenSpec.ofChange Rows.frameSizeSpec) :=
  OpenClaim.holds_of_wide 12 Try.f12 rfl rfl rfl rfl rfl rfl rfl ⟨rfl, rfl, rfl, rfl, rfl⟩ rfl rfl rfl rfl rfl (by kernel_rfl) Try.func12 (by kernel_rfl)
    (of_decide_eq_true (by kernel_rfl)) (by unfold Func.isWrapper; first | (rw [if_pos (by decide +kernel)]; kernel_rfl) | (rw [if_neg (by decide +kernel)]; exact ⟨rfl, rfl⟩))
    (fun os started H enc _ => lifted os started H enc)
theorem proved : Rows.FrameSizeSaid :=
  over
#print axioms proved
end Go.Proofs.Ytchonlodehogpaa.frameSize
