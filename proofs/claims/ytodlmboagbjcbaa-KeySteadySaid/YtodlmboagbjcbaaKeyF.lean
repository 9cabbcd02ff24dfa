/-
  The law KeyAbove.
  Conditions: none.
-/
import Derived.Test.YtodlmboagbjcbaaKeyE
namespace Go.Proofs.Ytodlmboagbjcbaa
set_option linter.unusedVariables false
set_option linter.unusedSimpArgs false
open Go.RowKit
theorem cmpZ_pos (a b : Int) : 0 < cmpZ a b ↔ b < a := by
  unfold cmpZ
  constructor
  · intro h
    by_cases h1 : a < b
    · rw [if_pos h1] at h; omega
    · rw [if_neg h1] at h
      by_cases h2 : b < a
      · exact h2
      · rw [if_neg h2] at h; omega
  · intro h
    rw [if_neg (by omega), if_pos h]
    omega
theorem bestU_max (l : List Int) : ∀ k, k ≤ l.length → (∀ i (h : i < l.length), i < k → l[i] ≤ bestU l k) ∧ (0 < k → ∃ (i : Nat) (h : i < l.length), i < k ∧ l[i] = bestU l k) := by
  intro k
  induction k with
  | zero => intro _; exact ⟨fun i h hi => by omega, fun h => by omega⟩
  | succ k ih =>
    intro hk
    obtain ⟨h1, h2⟩ := ih (by omega)
    rw [bestU_succ l k (by omega)]
    by_cases hc : k = 0 ∨ 0 < cmpZ l[k] (bestU l k)
    · rw [if_pos hc]
      refine ⟨fun i h hi => ?_, fun _ => ⟨k, by omega, by omega, rfl⟩⟩
      by_cases hik : i = k
      · subst hik; omega
      · rcases hc with hc | hc
        · omega
        · have := (cmpZ_pos _ _).1 hc
          have := h1 i h (by omega)
          omega
    · rw [if_neg hc]
      have hk0 : ¬ k = 0 := fun e => hc (.inl e)
      have hle : ¬ bestU l k < l[k] := fun e => hc (.inr ((cmpZ_pos _ _).2 e))
      refine ⟨fun i h hi => ?_, fun _ => ?_⟩
      · by_cases hik : i = k
        · subst hik; omega
        · exact h1 i h (by omega)
      · obtain ⟨i, hi, hik, e⟩ := h2 (by omega)
        exact ⟨i, hi, by omega, e⟩
theorem above_spec (l : List Int) (hx : ∀ x ∈ l, 0 ≤ x ∧ x ≤ 18446744073709551615) : 1 ≤ sumU (bestU l l.length) ∧ sumU (bestU l l.length) ≤ 18446744073709551615 ∧ (∀ i (h : i < l.length), sumU (bestU l l.length) ≤ l[i] → l[i] = 18446744073709551615) ∧
    (sumU (bestU l l.length) = 1 ∨ ∃ (i : Nat) (h : i < l.length), sumU (bestU l l.length) - 1 ≤ l[i]) := by
  obtain ⟨b0, b1⟩ := bestU_in l hx l.length (Nat.le_refl _)
  obtain ⟨m1, m2⟩ := bestU_max l l.length (Nat.le_refl _)
  have h0 : l.length = 0 → bestU l l.length = 0 := fun e => by rw [e]; rfl
  generalize bestU l l.length = y at *
  unfold sumU
  by_cases hy : y = 18446744073709551615
  · rw [if_pos hy]
    refine ⟨by omega, by omega, fun i h hi => ?_, ?_⟩
    · have := m1 i h h; omega
    · rcases Nat.eq_zero_or_pos l.length with e | e
      · have := h0 e; omega
      · obtain ⟨i, h, _, e2⟩ := m2 e
        exact .inr ⟨i, h, by omega⟩
  · rw [if_neg hy]
    refine ⟨by omega, by omega, fun i h hi => ?_, ?_⟩
    · have := m1 i h h; omega
    · rcases Nat.eq_zero_or_pos l.length with e | e
      · have := h0 e; exact .inl (by omega)
      · obtain ⟨i, h, _, e2⟩ := m2 e
        exact .inr ⟨i, h, by omega⟩
set_option maxRecDepth 100000 in
set_option maxHeartbeats 4000000 in
theorem law_keyAbove (l : List Int) (ad : Option Addr) (cap : Nat) (w : World) (h : Reads w w.heap.size 1 ad l.length (l.map fun x => .int .u64 x)) (hx : ∀ x ∈ l, 0 ≤ x ∧ x ≤ 18446744073709551615) :
    Calls Try.prog 9 #[.slice ad l.length cap] w fun e w' => e = .returned (.bool true) ∧ Below w.heap.size w w' := by
  have HR := Lib.hid h
  clear h
  go_enter Try.func9, Try.ntmps9
  go_wp2_with fail
  refine (awake03_any _).mono ?_
  rintro e w1 ⟨rfl, hb1⟩
  by_cases h5 : 5000 < l.length
  · have d1 : decide ((5000 : Int) < (l.length : Int)) = true := by simp; omega
    have d1' : decide (5000 < l.length) = true := by simp; omega
    go_wp2
    go_ret
    exact ⟨rfl, hb1⟩
  have d1 : decide ((5000 : Int) < (l.length : Int)) = false := by simp; omega
  have d1' : decide (5000 < l.length) = false := by simp; omega
  have HA := Lib.hid (kAbove_any l ad cap w1 ((HR.out.below hb1).more hb1.size) (by omega) hx)
  go_wp2_with fail
  refine HA.out.mono ?_
  rintro e w2 ⟨rfl, rfl⟩
  obtain ⟨n1, n2, n3, n4⟩ := above_spec l hx
  generalize sumU (bestU l l.length) = N at *
  have HN := Lib.hid (And.intro n3 n4)
  have ew : IntKind.u64.wrap (N - 1) = N - 1 := by rw [IntKind.wrap_u64]; omega
  clear n3 n4 hx HA
  obtain ⟨b0, hb0⟩ : ∃ b : Bool, (N == 1) = b := ⟨_, rfl⟩
  go_wp2
  go_loop [4, 5] (fun b i => ∃ (k : Nat) (bb : Bool), k ≤ l.length ∧ i = .int .i64 (k : Int) ∧ b = .bool bb ∧ (N = 1 → bb = true) ∧ (∀ j (h : j < l.length), j < k → N - 1 ≤ l[j] → bb = true)) (fun _ i => l.length - (intOf i).toNat)
  case atStart => exact ⟨0, b0, by omega, rfl, rfl, fun e => by rw [← hb0, e]; rfl, by intro j h hj; omega⟩
  case round =>
    obtain ⟨k, bb, hk, rfl, rfl, hbb, hj⟩ := hrel
    by_cases hlt : k < l.length
    · have hbool : decide ((k : Int) < (l.length : Int)) = true := by simpa using hlt
      have hki : (k : Int) < (l.length : Int) := by omega
      obtain ⟨g, o, rfl, hg, hc⟩ := HR.out.rowAt hlt (by omega)
      have s0 : w1.cell? ⟨g, o + k, none⟩ = some (.int .u64 l[k]) := (hb1.cell (p := ⟨g, o + k, none⟩) hg).trans (by
        have := hc 0 (.int .u64 l[k]) (by rw [Nat.mul_one, Nat.add_zero, List.getElem?_map, List.getElem?_eq_getElem hlt]; rfl)
        simpa using this)
      have hx3 := HN.out.1 k hlt
      have HK := Lib.hid hlt
      have HJ := Lib.hid (show ∀ (b2 : Bool), (bb = true → b2 = true) → (N - 1 ≤ l[k] → b2 = true) → ∀ j (h : j < l.length), j < k + 1 → N - 1 ≤ l[j] → b2 = true from fun b2 e1 e2 j h hjk hle => by
        by_cases e : j = k
        · subst e; exact e2 hle
        · exact e1 (hj j h (by omega) hle))
      have HB := Lib.hid hbb
      generalize l[k] = x at *
      clear hc hj hbb
      have hA : (decide (N ≤ x) = true ∧ x = 18446744073709551615) ∨ decide (N ≤ x) = false := by
        by_cases h : N ≤ x
        · exact .inl ⟨by simpa using h, hx3 h⟩
        · exact .inr (by simpa using h)
      clear hx3
      rcases hA with ⟨d2, rfl⟩ | d2
      · cases bb
        · by_cases h8 : N - 1 ≤ 18446744073709551615
          · have d3 : decide (N - 1 ≤ 18446744073709551615) = true := by simpa using h8
            go_wp2
            exact ⟨⟨k + 1, true, HK.out, by go_num, rfl, fun _ => rfl, HJ.out true (fun _ => rfl) (fun _ => rfl)⟩, measI HK.out⟩
          · omega
        · go_wp2
          exact ⟨⟨k + 1, true, HK.out, by go_num, rfl, fun _ => rfl, HJ.out true (fun _ => rfl) (fun _ => rfl)⟩, measI HK.out⟩
      · cases bb
        · by_cases h8 : N - 1 ≤ x
          · have d3 : decide (N - 1 ≤ x) = true := by simpa using h8
            go_wp2
            exact ⟨⟨k + 1, true, HK.out, by go_num, rfl, fun _ => rfl, HJ.out true (fun _ => rfl) (fun _ => rfl)⟩, measI HK.out⟩
          · have d3 : decide (N - 1 ≤ x) = false := by simpa using h8
            go_wp2
            exact ⟨⟨k + 1, false, HK.out, by go_num, rfl, HB.out, HJ.out false (fun h => h) (fun h => absurd h h8)⟩, measI HK.out⟩
        · go_wp2
          exact ⟨⟨k + 1, true, HK.out, by go_num, rfl, fun _ => rfl, HJ.out true (fun _ => rfl) (fun _ => rfl)⟩, measI HK.out⟩
    · have hbool : decide ((k : Int) < (l.length : Int)) = false := by simpa using hlt
      have hbt : bb = true := by
        rcases HN.out.2 with e | ⟨i, hi, e⟩
        · exact hbb e
        · exact hj i hi (by omega) e
      subst hbt
      have d2 : decide (1 ≤ N) = true := by simpa using n1
      clear hj hbb
      go_wp2
      go_ret
      exact ⟨rfl, hb1⟩
end Go.Proofs.Ytodlmboagbjcbaa
