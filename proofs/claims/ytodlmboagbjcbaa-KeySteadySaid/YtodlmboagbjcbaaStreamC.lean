/-
  What stream.Lacks returns; the laws' awake.
  Conditions: none.
-/
import Derived.Test.YtodlmboagbjcbaaStreamB
import Derived.Deep.AppendLies
namespace Go.Proofs.Ytodlmboagbjcbaa
set_option linter.unusedVariables false
open Go.RowKit IM
theorem sLacks_any (D M c u : Nat) (z : Int) (H : Hel) (w : World) (h : StrAt w D M z c H) (hc : c ≤ 1000000) (hu : u < 4294967296) :
    Calls Try.prog 19 #[.pointer (some ⟨D, 0, none⟩), .int .u32 (u : Int)] w fun e w' => e = .returned (.tuple #[.int .u32 (if u ≤ c then 0 else (c : Int) + 1), .bool (decide (c < u))]) ∧ w = w' := by
  have c1 : w.cell? ⟨D, 1, none⟩ = some (.int .u32 (c : Int)) := cell_of_row _ _ 1 _ _ _ h.1
  clear h
  by_cases hlt : u ≤ c
  · have d1 : decide ((u : Int) ≤ (c : Int)) = true := by simp; omega
    have d2 : decide (u ≤ c) = true := by simpa using hlt
    rw [if_pos hlt, decide_eq_false (by omega)]
    clear hlt
    go_enter Try.func19, Try.ntmps19
    go_wp2
    go_ret2
    exact ⟨rfl, rfl⟩
  · have d1 : decide ((u : Int) ≤ (c : Int)) = false := by simp; omega
    have d2 : decide (u ≤ c) = false := by simpa using hlt
    rw [if_neg hlt, decide_eq_true (by omega)]
    clear hlt
    go_enter Try.func19, Try.ntmps19
    go_wp2
    go_ret2
    exact ⟨rfl, rfl⟩
def numM (q : Nat) : Msg := ⟨0, q, 0, 0, [], ⟨#[]⟩, none, 0⟩
def STake (D M : Nat) (z : Int) (c : Nat) (H : Hel) (m : Msg) (k : Int) (c' : Nat) (H' : Hel) (O : List Msg) : Prop := ∀ W : World, StrAt W D M z c H → Calls Try.prog 17 #[.pointer (some ⟨D, 0, none⟩), .agg (msgA m)] W fun e w' => ∃ v, e = .returned (.tuple #[v, .int .i64 k]) ∧
  w'.ownsRow W.heap.size 37 6 v O.length (rowsM O) ∧ StrAt w' D M z c' H' ∧ Kept (Two D M) W w'
theorem sTake_at (D M c : Nat) (z : Int) (H : Hel) (m : Msg) {k : Int} {c' : Nat} {H' : Hel} {O : List Msg} (hk : Keys H) (hc : c ≤ 1000000) (hz : 1 ≤ z ∧ z ≤ 64) (hH : H.length ≤ 1000) (hm : m.seq < 4294967296) (h1 : codeS z c H m = k) (h2 : takeS z c H m = (c', H', O)) : STake D M z c H m k c' H' O := by
  intro W hW
  have h := sTake_any D M c z H m W hW hk hc hz hH hm
  unfold STakePost at h
  rw [h1, h2] at h
  exact h
theorem own_slice {w : World} {base : Nat} {e : TypeId} {size : Nat} {v : Value} {n : Nat} {xs : List Value} (h : w.ownsRow base e size v n xs) : ∃ ad cap, v = .slice ad n cap := by
  rcases h.2 with ⟨rfl, rfl⟩ | ⟨g, cap, cur, rfl, _⟩
  · exact ⟨_, _, rfl⟩
  · exact ⟨_, _, rfl⟩
set_option maxRecDepth 100000 in
set_option maxHeartbeats 4000000 in
theorem awake10_any (w : World) : Calls Try.prog 13 #[] w fun e w' => e = .returned (.bool true) ∧ Below w.heap.size w w' := by
  have h1 := fun D M => sTake_at D M 0 4 [] (numM 2) (k := 0) (c' := 0) (H' := [(2, numM 2)]) (O := []) (by unfold Keys; simp) (by omega) (by omega) (by simp) (by decide) rfl rfl
  have h2 := fun D M => sTake_at D M 0 4 [(2, numM 2)] (numM 1) (k := 0) (c' := 2) (H' := []) (O := [numM 1, numM 2]) (by unfold Keys; simp) (by omega) (by omega) (by simp) (by decide) rfl rfl
  have h3 := fun D M => sTake_at D M 2 4 [] (numM 2) (k := 12) (c' := 2) (H' := []) (O := []) (by unfold Keys; simp) (by omega) (by omega) (by simp) (by decide) rfl rfl
  have h4 := fun D M => sTake_at D M 2 4 [] (numM 7) (k := 6) (c' := 2) (H' := []) (O := []) (by unfold Keys; simp) (by omega) (by omega) (by simp) (by decide) rfl rfl
  have h0 : ∀ W : World, Calls Try.prog 15 #[.int .i64 4] W (SNewPost 4 W) := fun W => sNew_any 4 W
  have HH := Lib.hid (And.intro h0 (And.intro h1 (And.intro h2 (And.intro h3 h4))))
  clear h0 h1 h2 h3 h4
  go_enter Try.func13, Try.ntmps13
  go_wp2_with fail
  refine (HH.out.1 _).mono ?_
  rintro e w1 ⟨D, M, rfl, hA1, hb1, hD, hM⟩
  have hS : ∀ k, k < w.heap.size → ¬ Two D M k := by unfold Two; intro k hk; omega
  go_wp2_with fail
  refine (HH.out.2.1 D M _ hA1).mono ?_
  rintro e w2 ⟨v2, rfl, ho2, hA2, hk2⟩
  obtain ⟨ad2, cap2, rfl⟩ := own_slice ho2
  clear ho2
  have hb2 := hk2.out hb1 hb1.size hS
  go_wp2_with fail
  refine (HH.out.2.2.1 D M _ hA2).mono ?_
  rintro e w3 ⟨v3, rfl, ho3, hA3, hk3⟩
  obtain ⟨g, cap3, rfl, hg0, hg1⟩ := ho3.form (by decide)
  have hs3 : w3.cell? ⟨g, 1, none⟩ = some (.int .u32 1) := ho3.cells (g := g) rfl 1 _ rfl
  have hgD : ¬ Two D M g := by have := hA2.lt; unfold Two; omega
  clear ho3
  have hb3 := hk3.out hb2 hb2.size hS
  go_wp2_with fail
  refine (HH.out.2.2.2.1 D M _ hA3).mono ?_
  rintro e w4 ⟨v4, rfl, ho4, hA4, hk4⟩
  obtain ⟨ad4, cap4, rfl⟩ := own_slice ho4
  clear ho4
  have hb4 := hk4.out hb3 hb3.size hS
  have hs4 := (hk4.cell (p := ⟨g, 1, none⟩) hg1 hgD).trans hs3
  have hg4 := Nat.lt_of_lt_of_le hg1 hk4.size
  clear hs3
  go_wp2_with fail
  refine (HH.out.2.2.2.2 D M _ hA4).mono ?_
  rintro e w5 ⟨v5, rfl, ho5, hA5, hk5⟩
  obtain ⟨ad5, cap5, rfl⟩ := own_slice ho5
  clear ho5
  have hb5 := hk5.out hb4 hb4.size hS
  have hs5 := (hk5.cell (p := ⟨g, 1, none⟩) hg4 hgD).trans hs4
  clear hs4
  go_wp2_with fail
  refine (sLacks_any D M 2 3 4 [] _ hA5 (by omega) (by omega)).mono ?_
  rintro e w6 ⟨rfl, rfl⟩
  go_wp2_with fail
  refine (sCount_any D M 2 4 [] _ hA5).mono ?_
  rintro e w6 ⟨rfl, rfl⟩
  go_wp2_with fail
  refine (sHeld_any D M 2 4 [] _ hA5).mono ?_
  rintro e w6 ⟨rfl, rfl⟩
  go_wp2
  go_ret
  exact ⟨rfl, hb5⟩
end Go.Proofs.Ytodlmboagbjcbaa
