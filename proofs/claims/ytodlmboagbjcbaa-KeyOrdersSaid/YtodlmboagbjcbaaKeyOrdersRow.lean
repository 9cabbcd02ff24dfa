/-
  'Rows.KeyOrdersSaid': for every input the law returns true, and each argument reads behind the call as it did.
  Conditions: none.
-/
import Derived.Test.YtodlmboagbjcbaaRows
import Derived.Test.YtodlmboagbjcbaaRow
import Derived.Test.YtodlmboagbjcbaaRow
import Derived.Test.YtodlmboagbjcbaaKeyO
namespace Go.Proofs.Ytodlmboagbjcbaa.keyOrders
open Go.ChangeShapes Go.WideShapes Go.ChangeAt Go.RowKit
open Go.ChangeMaps (open_string shut_string)
set_option linter.unusedVariables false
theorem own : ownKnob Try.prog.godebug = none := by kernel_rfl
set_option maxRecDepth 100000 in
theorem lifted (os : Os) (started : os.Started) (H : Type) (enc : TypeId × Value → H) :
    ReturnsInHanded {} Try.checked os 11 .any (Rows.keyOrdersSpec.pre6 enc Try.prog Try.f11 Rows.keyOrdersRow.domain false) (Rows.keyOrdersSpec.post enc Try.prog Try.f11 false true false false) := by
  refine returnsInHanded_of_change (C := Try.checked) own started (by kernel_rfl) Try.func11
    (ChangeSpec.witness6 (enc := enc) (C := Try.checked) false ⟨#[], #[.agg #[.int .u64 0, .int .i64 0], .agg #[.int .u64 0, .int .i64 0], .agg #[.int .u64 0, .int .i64 0], .agg #[.int .u64 0, .int .i64 0], .slice none 0 0, .slice none 0 0, .slice none 0 0], []⟩ 8 (by kernel_rfl) (by kernel_rfl) (by kernel_rfl) (by kernel_rfl)) ?_
  intro W base args ds gs before hval0 hW hcnd _
  have hval : ∀ (j : Nat) t v, Try.f11.params[j]? = some t → args[j]? = some v → Value.okWide Try.prog W .any base t v := hval0
  have hW0 := hW
  obtain ⟨p, q, hA0, hV, hbef, hfz, hnd⟩ := hW
  have hA : DataW.TrodAll enc Try.prog W 0 (fun _ => true) true Try.f11.params.toList args.toList ds p := hA0
  rw [Try.params11] at hA hval
  obtain ⟨v0, vs0, d0, ds0, p0, q0, hargs, rfl, rfl, h0, r0⟩ := trodAll_cons hA
  obtain ⟨v1, vs1, d1, ds1, p1, q1, rfl, rfl, rfl, h1, r1⟩ := trodAll_cons r0
  obtain ⟨v2, vs2, d2, ds2, p2, q2, rfl, rfl, rfl, h2, r2⟩ := trodAll_cons r1
  obtain ⟨v3, vs3, d3, ds3, p3, q3, rfl, rfl, rfl, h3, r3⟩ := trodAll_cons r2
  obtain ⟨v4, vs4, d4, ds4, p4, q4, rfl, rfl, rfl, h4, r4⟩ := trodAll_cons r3
  obtain ⟨v5, vs5, d5, ds5, p5, q5, rfl, rfl, rfl, h5, r5⟩ := trodAll_cons r4
  obtain ⟨v6, vs6, d6, ds6, p6, q6, rfl, rfl, rfl, h6, r6⟩ := trodAll_cons r5
  obtain ⟨rfl, rfl, rfl⟩ := trodAll_nil r6
  obtain rfl : args = #[v0, v1, v2, v3, v4, v5, v6] := by cases args; simp_all
  obtain ⟨rfl, rfl⟩ := trodVars_none hV
  have fin : ∀ (e : Ending) W', (e = .returned (.bool true) ∧ Below W.heap.size W W') → ∃ v, e = .returned v ∧ Rows.keyOrdersSpec.post enc Try.prog Try.f11 false true false false W #[v0, v1, v2, v3, v4, v5, v6] v W' := by
    rintro e W' ⟨rfl, hb⟩
    exact ⟨_, rfl, law_post (by kernel_rfl) (by intro t ht; rw [Try.params11] at ht; simp only [List.mem_cons, List.not_mem_nil, or_false] at ht; rcases ht with rfl | rfl | rfl | rfl | rfl | rfl | rfl <;> exact ⟨by kernel_rfl, of_decide_eq_true (by kernel_rfl)⟩) hW0 rfl (by kernel_rfl) Try.underlying4 rfl rfl rfl hb⟩
  clear hA0 hval0 hW0
  obtain ⟨u0_0, u0_1, y0_0, y0_1, _, rfl, rfl, rfl, q0_0, q0_1⟩ := Go.Joins.open_agg2 Try.underlying56 (by kernel_rfl) (by kernel_rfl) (hval 0 56 v0 rfl rfl) h0
  obtain ⟨b0_0, e0_0, f0_0, g0_0⟩ := DataW.trod_int Try.underlying34 q0_0
  simp only [List.cons.injEq, and_true] at e0_0
  subst e0_0
  obtain ⟨b0_1, e0_1, f0_1, g0_1⟩ := DataW.trod_int Try.underlying3 q0_1
  simp only [List.cons.injEq, and_true] at e0_1
  subst e0_1
  obtain ⟨u1_0, u1_1, y1_0, y1_1, _, rfl, rfl, rfl, q1_0, q1_1⟩ := Go.Joins.open_agg2 Try.underlying56 (by kernel_rfl) (by kernel_rfl) (hval 1 56 v1 rfl rfl) h1
  obtain ⟨b1_0, e1_0, f1_0, g1_0⟩ := DataW.trod_int Try.underlying34 q1_0
  simp only [List.cons.injEq, and_true] at e1_0
  subst e1_0
  obtain ⟨b1_1, e1_1, f1_1, g1_1⟩ := DataW.trod_int Try.underlying3 q1_1
  simp only [List.cons.injEq, and_true] at e1_1
  subst e1_1
  obtain ⟨u2_0, u2_1, y2_0, y2_1, _, rfl, rfl, rfl, q2_0, q2_1⟩ := Go.Joins.open_agg2 Try.underlying58 (by kernel_rfl) (by kernel_rfl) (hval 2 58 v2 rfl rfl) h2
  obtain ⟨b2_0, e2_0, f2_0, g2_0⟩ := DataW.trod_int Try.underlying34 q2_0
  simp only [List.cons.injEq, and_true] at e2_0
  subst e2_0
  obtain ⟨b2_1, e2_1, f2_1, g2_1⟩ := DataW.trod_int Try.underlying3 q2_1
  simp only [List.cons.injEq, and_true] at e2_1
  subst e2_1
  obtain ⟨u3_0, u3_1, y3_0, y3_1, _, rfl, rfl, rfl, q3_0, q3_1⟩ := Go.Joins.open_agg2 Try.underlying58 (by kernel_rfl) (by kernel_rfl) (hval 3 58 v3 rfl rfl) h3
  obtain ⟨b3_0, e3_0, f3_0, g3_0⟩ := DataW.trod_int Try.underlying34 q3_0
  simp only [List.cons.injEq, and_true] at e3_0
  subst e3_0
  obtain ⟨b3_1, e3_1, f3_1, g3_1⟩ := DataW.trod_int Try.underlying3 q3_1
  simp only [List.cons.injEq, and_true] at e3_1
  subst e3_1
  exact (row_keyOrders b0_0 b0_1 b1_0 b1_1 b2_0 b2_1 b3_0 b3_1 v4 v5 v6 W (hval 4 67 v4 rfl rfl) h4 (hval 5 68 v5 rfl rfl) h5 (hval 6 63 v6 rfl rfl) h6).mono fin
theorem over : Rows.keyOrdersRow.holds Try.pinned (OpenSpec.ofChange Rows.keyOrdersSpec) :=
  OpenClaim.holds_of_wide 11 Try.f11 rfl rfl rfl rfl rfl rfl rfl ⟨rfl, rfl, rfl, rfl, rfl⟩ rfl rfl rfl rfl rfl (by kernel_rfl) Try.func11 (by kernel_rfl)
    (of_decide_eq_true (by kernel_rfl)) (by unfold Func.isWrapper; first | (rw [if_pos (by decide +kernel)]; kernel_rfl) | (rw [if_neg (by decide +kernel)]; exact ⟨rfl, rfl⟩))
    (fun os started H enc _ => lifted os started H enc)
theorem proved : Rows.KeyOrdersSaid :=
  over
#print axioms proved
end Go.Proofs.Ytodlmboagbjcbaa.keyOrders

