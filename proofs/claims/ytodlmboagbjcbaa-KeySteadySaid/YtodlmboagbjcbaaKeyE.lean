/-
  What the key's Above returns; the laws' awake.
  Conditions: none.
-/
import Derived.Test.YtodlmboagbjcbaaKeyD
namespace Go.Proofs.Ytodlmboagbjcbaa
set_option linter.unusedVariables false
set_option linter.unusedSimpArgs false
open Go.RowKit
def sumU (a : Int) : Int := if a = 18446744073709551615 then 18446744073709551615 else a + 1
set_option maxRecDepth 100000 in
set_option maxHeartbeats 2000000 in
theorem kSum_any (a : Int) (w : World) (h0 : 0 ≤ a) (h1 : a ≤ 18446744073709551615) : Calls Try.prog 51 #[.int .u64 a, .int .u64 1] w fun e w' => e = .returned (.int .u64 (sumU a)) ∧ w = w' := by
  obtain ⟨v, hv⟩ : ∃ v, v = sumU a := ⟨_, rfl⟩
  rw [← hv]
  have e1 : IntKind.u64.wrap (18446744073709551615 - a) = 18446744073709551615 - a := by rw [IntKind.wrap_u64]; omega
  by_cases h : a = 18446744073709551615
  · subst h
    obtain rfl : v = 18446744073709551615 := by rw [hv]; rfl
    clear hv e1
    go_enter Try.func51, Try.ntmps51
    go_wp2
    go_ret
    exact ⟨rfl, rfl⟩
  · obtain rfl : v = a + 1 := by rw [hv]; unfold sumU; rw [if_neg h]
    have d1 : decide (18446744073709551615 - a < 1) = false := by simp; omega
    have e2 : IntKind.u64.wrap (a + 1) = a + 1 := by rw [IntKind.wrap_u64]; omega
    clear hv h
    go_enter Try.func51, Try.ntmps51
    go_wp2
    go_ret
    exact ⟨rfl, rfl⟩
theorem bestU_in (l : List Int) (h : ∀ x ∈ l, 0 ≤ x ∧ x ≤ 18446744073709551615) : ∀ k, k ≤ l.length → 0 ≤ bestU l k ∧ bestU l k ≤ 18446744073709551615 := by
  intro k
  induction k with
  | zero => intro _; exact ⟨by show (0 : Int) ≤ 0; omega, by show (0 : Int) ≤ _; omega⟩
  | succ k ih =>
    intro hk
    rw [bestU_succ l k (by omega)]
    split
    · exact h _ (List.getElem_mem _)
    · exact ih (by omega)
set_option maxRecDepth 100000 in
set_option maxHeartbeats 2000000 in
theorem kAbove_any (l : List Int) (ad : Option Addr) (cap : Nat) (w : World) (h : Reads w w.heap.size 1 ad l.length (l.map fun x => .int .u64 x)) (hl : l.length ≤ 1000000) (hx : ∀ x ∈ l, 0 ≤ x ∧ x ≤ 18446744073709551615) : Calls Try.prog 32 #[.slice ad l.length cap] w fun e w' => e = .returned (.int .u64 (sumU (bestU l l.length))) ∧ w = w' := by
  have HG := Lib.hid (greatU_any l ad cap w h hl)
  obtain ⟨b0, b1⟩ := bestU_in l hx l.length (Nat.le_refl _)
  generalize bestU l l.length = y at *
  have HS := Lib.hid (kSum_any y w b0 b1)
  clear h hx
  go_enter Try.func32, Try.ntmps32
  go_wp2_with fail
  refine HG.out.mono ?_
  rintro e w5 ⟨rfl, rfl⟩
  go_wp2_with fail
  refine HS.out.mono ?_
  rintro e w5 ⟨rfl, rfl⟩
  go_wp2
  go_ret
  exact ⟨rfl, rfl⟩
set_option maxRecDepth 100000 in
set_option maxHeartbeats 4000000 in
theorem awake03_any (w : World) : Calls Try.prog 26 #[] w fun e w' => e = .returned (.bool true) ∧ Below w.heap.size w w' := by
  have v1 : keyZ 3 1 3 2 = -1 := by decide
  have v2 : keyZ 4 0 3 9 = 1 := by decide
  have v3 : sumU (bestU [5, 2] 2) = 6 := by decide
  have v4 : sumU (bestU [] 0) = 1 := by decide
  have v5 : bestK [] 0 = (0, 0) := rfl
  have V := Lib.hid (And.intro v1 (And.intro v2 (And.intro v3 (And.intro v4 v5))))
  clear v1 v2 v3 v4 v5
  go_enter Try.func26, Try.ntmps26
  go_wp2_with fail
  refine (kCmp_any 3 1 3 2 _).mono ?_
  rw [V.out.1]
  rintro e w1 ⟨rfl, hb1⟩
  go_wp2_with fail
  refine (kConf_any 4 0 3 9 _).mono ?_
  rw [V.out.2.1]
  rintro e w2 ⟨rfl, hb2'⟩
  have hb2 := bt hb1 hb2'
  clear hb1 hb2'
  have hr3 : Reads (w2.alloc (.cells #[.int .u64 5, .int .u64 2] 34)) (w2.alloc (.cells #[.int .u64 5, .int .u64 2] 34)).heap.size 1 (some ⟨w2.heap.size, 0, none⟩) [(5 : Int), 2].length ([(5 : Int), 2].map fun x => .int .u64 x) :=
    ⟨rfl, fun _ => ⟨_, rfl, by simp, fun j u hu => new_cells w2 [.int .u64 5, .int .u64 2] 34 j u hu⟩⟩
  have HA3 := Lib.hid (kAbove_any [5, 2] (some ⟨w2.heap.size, 0, none⟩) 2 _ hr3 (by simp) (by simp))
  have hb3 := ba hb2 (.cells #[.int .u64 5, .int .u64 2] 34)
  clear hr3
  go_wp2_with fail
  refine HA3.out.mono ?_
  rintro e w3 ⟨rfl, rfl⟩
  rw [show [(5 : Int), 2].length = 2 from rfl, V.out.2.2.1]
  generalize w2.alloc (.cells #[.int .u64 5, .int .u64 2] 34) = w3 at *
  go_wp2_with fail
  refine (kAbove_any [] none 0 w3 Reads.none_ (by simp) (by simp)).mono ?_
  rintro e w4 ⟨rfl, rfl⟩
  rw [show ([] : List Int).length = 0 from rfl, V.out.2.2.2.1]
  go_wp2_with fail
  refine (kLast_any [] none 0 w3 Reads.none_ (by simp)).mono ?_
  rintro e w4 ⟨rfl, hb4'⟩
  have hb4 := bt hb3 hb4'
  clear hb3 hb4' hb2
  rw [show ([] : List (Int × Int)).length = 0 from rfl, V.out.2.2.2.2]
  obtain ⟨m1, hm1⟩ : ∃ m : Msg, m = ⟨0, 0, 2, 0, [], ⟨#[]⟩, none, 0⟩ := ⟨_, rfl⟩
  obtain ⟨m2, hm2⟩ : ∃ m : Msg, m = ⟨0, 0, 1, 0, [], ⟨#[]⟩, none, 0⟩ := ⟨_, rfl⟩
  have hrows : rowsM [m1, m2] = [.int .i64 0, .int .u32 0, .int .u64 2, .int .i64 0, .slice none 0 0, .string ⟨#[]⟩, .int .i64 0, .int .u32 0, .int .u64 1, .int .i64 0, .slice none 0 0, .string ⟨#[]⟩] := by rw [hm1, hm2]; rfl
  have hb5 := ba hb4 (.cells #[.int .i64 0, .int .u32 0, .int .u64 2, .int .i64 0, .slice none 0 0, .string ⟨#[]⟩, .int .i64 0, .int .u32 0, .int .u64 1, .int .i64 0, .slice none 0 0, .string ⟨#[]⟩] 37)
  have hr5 : Reads (w4.alloc (.cells #[.int .i64 0, .int .u32 0, .int .u64 2, .int .i64 0, .slice none 0 0, .string ⟨#[]⟩, .int .i64 0, .int .u32 0, .int .u64 1, .int .i64 0, .slice none 0 0, .string ⟨#[]⟩] 37)) (w4.alloc (.cells #[.int .i64 0, .int .u32 0, .int .u64 2, .int .i64 0, .slice none 0 0, .string ⟨#[]⟩, .int .i64 0, .int .u32 0, .int .u64 1, .int .i64 0, .slice none 0 0, .string ⟨#[]⟩] 37)).heap.size 6 (some ⟨w4.heap.size, 0, none⟩) 2 (rowsM [m1, m2]) := by
    rw [hrows]
    exact ⟨rfl, fun _ => ⟨_, rfl, by simp, fun j u hu => new_cells w4 _ 37 j u hu⟩⟩
  have HS := Lib.hid (kSort2_any m1 m2 _ 2 _ hr5)
  have H5 := Lib.hid hb5
  clear hr5 hrows hm1 hm2 hb5 hb4
  go_wp2_with fail
  refine HS.out.mono ?_
  rintro e w6 ⟨⟨ad, cap, rfl⟩, hb6⟩
  have hb7 := bt H5.out hb6
  go_wp2
  go_ret
  exact ⟨rfl, hb7⟩
end Go.Proofs.Ytodlmboagbjcbaa
