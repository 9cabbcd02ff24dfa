/-
  'Rows.HoldPlaysSaid': for every input the law returns true, and each argument reads behind the call as it did.
  Conditions: none.
-/
import Derived.Test.YtnjcebkdkklidaaRows
import Derived.Test.YtnjcebkdkklidaaRow
import Derived.Test.YtnjcebkdkklidaaRow
import Derived.Test.YtnjcebkdkklidaaHoldY
namespace Go.Proofs.Ytnjcebkdkklidaa.holdPlays
open Go.ChangeShapes Go.WideShapes Go.ChangeAt Go.RowKit
open Go.ChangeMaps (open_string shut_string)
set_option linter.unusedVariables false
theorem own : ownKnob Try.prog.godebug = none := by kernel_rfl
set_option maxRecDepth 100000 in
theorem lifted (os : Os) (started : os.Started) (H : Type) (enc : TypeId × Value → H) :
    ReturnsInHanded {} Try.checked os 3 .any (Rows.holdPlaysSpec.pre6 enc Try.prog Try.f3 Rows.holdPlaysRow.domain false) (Rows.holdPlaysSpec.post enc Try.prog Try.f3 false true false false) := by
  refine returnsInHanded_of_change (C := Try.checked) own started (by kernel_rfl) Try.func3
    (ChangeSpec.witness6 (enc := enc) (C := Try.checked) false ⟨#[], #[.slice none 0 0, .int .i64 0, .int .u32 0, .int .i64 0, .agg #[.int .u64 0, .int .i64 0]], []⟩ 8 (by kernel_rfl) (by kernel_rfl) (by kernel_rfl) (by kernel_rfl)) ?_
  intro W base args ds gs before hval0 hW hcnd _
  have hval : ∀ (j : Nat) t v, Try.f3.params[j]? = some t → args[j]? = some v → Value.okWide Try.prog W .any base t v := hval0
  have hW0 := hW
  obtain ⟨p, q, hA0, hV, hbef, hfz, hnd⟩ := hW
  have hA : DataW.TrodAll enc Try.prog W 0 (fun _ => true) true Try.f3.params.toList args.toList ds p := hA0
  rw [Try.params3] at hA hval
  obtain ⟨v0, vs0, d0, ds0, p0, q0, hargs, rfl, rfl, h0, r0⟩ := trodAll_cons hA
  obtain ⟨v1, vs1, d1, ds1, p1, q1, rfl, rfl, rfl, h1, r1⟩ := trodAll_cons r0
  obtain ⟨v2, vs2, d2, ds2, p2, q2, rfl, rfl, rfl, h2, r2⟩ := trodAll_cons r1
  obtain ⟨v3, vs3, d3, ds3, p3, q3, rfl, rfl, rfl, h3, r3⟩ := trodAll_cons r2
  obtain ⟨v4, vs4, d4, ds4, p4, q4, rfl, rfl, rfl, h4, r4⟩ := trodAll_cons r3
  obtain ⟨rfl, rfl, rfl⟩ := trodAll_nil r4
  obtain rfl : args = #[v0, v1, v2, v3, v4] := by cases args; simp_all
  obtain ⟨rfl, rfl⟩ := trodVars_none hV
  have fin : ∀ (e : Ending) W', (e = .returned (.bool true) ∧ Below W.heap.size W W') → ∃ v, e = .returned v ∧ Rows.holdPlaysSpec.post enc Try.prog Try.f3 false true false false W #[v0, v1, v2, v3, v4] v W' := by
    rintro e W' ⟨rfl, hb⟩
    exact ⟨_, rfl, law_post (by kernel_rfl) (by intro t ht; rw [Try.params3] at ht; simp only [List.mem_cons, List.not_mem_nil, or_false] at ht; rcases ht with rfl | rfl | rfl | rfl | rfl <;> exact ⟨by kernel_rfl, of_decide_eq_true (by kernel_rfl)⟩) hW0 rfl (by kernel_rfl) Try.underlying4 rfl rfl rfl hb⟩
  clear hA0 hval0 hW0
  obtain ⟨a1, rfl, rfl, rfl, w1⟩ := open_int Try.underlying3 (hval 1 3 v1 rfl rfl) h1
  obtain ⟨a2, rfl, rfl, rfl, w2⟩ := open_int Try.underlying23 (hval 2 23 v2 rfl rfl) h2
  obtain ⟨a3, rfl, rfl, rfl, w3⟩ := open_int Try.underlying3 (hval 3 3 v3 rfl rfl) h3
  obtain ⟨u4_0, u4_1, y4_0, y4_1, _, rfl, rfl, rfl, q4_0, q4_1⟩ := Go.Joins.open_agg2 Try.underlying26 (by kernel_rfl) (by kernel_rfl) (hval 4 26 v4 rfl rfl) h4
  obtain ⟨b4_0, e4_0, f4_0, g4_0⟩ := DataW.trod_int Try.underlying24 q4_0
  simp only [List.cons.injEq, and_true] at e4_0
  subst e4_0
  obtain ⟨b4_1, e4_1, f4_1, g4_1⟩ := DataW.trod_int Try.underlying3 q4_1
  simp only [List.cons.injEq, and_true] at e4_1
  subst e4_1
  exact (row_holdPlays v0 a1 a2 a3 b4_0 b4_1 W (hval 0 22 v0 rfl rfl) h0 (by have := w1; simp [Lit.wf, IntKind.min, IntKind.max, IntKind.signed, IntKind.bits] at this; exact this) (by have := w2; simp [Lit.wf, IntKind.min, IntKind.max, IntKind.signed, IntKind.bits] at this; exact this) (by have := w3; simp [Lit.wf, IntKind.min, IntKind.max, IntKind.signed, IntKind.bits] at this; exact this)).mono fin
theorem over : Rows.holdPlaysRow.holds Try.pinned (OpenSpec.ofChange Rows.holdPlaysSpec) :=
  OpenClaim.holds_of_wide 3 Try.f3 rfl rfl rfl rfl rfl rfl rfl ⟨rfl, rfl, rfl, rfl, rfl⟩ rfl rfl rfl rfl rfl (by kernel_rfl) Try.func3 (by kernel_rfl)
    (of_decide_eq_true (by kernel_rfl)) (by unfold Func.isWrapper; first | (rw [if_pos (by decide +kernel)]; kernel_rfl) | (rw [if_neg (by decide +kernel)]; exact ⟨rfl, rfl⟩))
    (fun os started H enc _ => lifted os started H enc)
theorem proved : Rows.HoldPlaysSaid :=
  over
#print axioms proved
end Go.Proofs.Ytnjcebkdkklidaa.holdPlays
