/-
  What the laws' Few returns.
  Conditions: none.
-/
import Derived.Test.YtchonlodehogpaaDiskD
namespace Go.Proofs.Ytchonlodehogpaa
set_option linter.unusedVariables false
open Go.RowKit
def FewEnd (n : Nat) (e : Ending) : Prop := ∃ b, e = .returned (.bool b) ∧ (b = true → n ≤ 200)
set_option maxRecDepth 100000 in
set_option maxHeartbeats 1000000 in
theorem Few_any (v : Value) (l : List ActV) (w : World) (h : ActsAt w v l) :
    Calls Try.prog 30 #[v] w fun e w' => FewEnd l.length e ∧ w = w' := by
  rcases h with ⟨ad, cap, rfl, rfl⟩ | ⟨B, O, cap, rfl, hl, hB, hc⟩
  · go_enter Try.func30, Try.ntmps30
    go_wp2
    go_rounds 1
    go_ret
    exact ⟨⟨_, rfl, fun _ => by simp⟩, rfl⟩
  · have HC := Lib.hid hc
    clear hc
    go_enter Try.func30, Try.ntmps30
    go_wp2
    go_loop [3, 4] (fun m i => ∃ k n : Nat, k ≤ l.length ∧ k ≤ 200 ∧ n ≤ 100000 ∧ i = .int .i64 (k : Int) ∧ m = .int .i64 (n : Int)) (fun _ i => l.length - (intOf i).toNat)
    case atStart => exact ⟨0, 0, by omega, by omega, by omega, rfl, rfl⟩
    case round =>
      obtain ⟨k, n, hk, hk2, hn, rfl, rfl⟩ := hrel
      by_cases hlt : k < l.length
      · have hbool : decide ((k : Int) < (l.length : Int)) = true := by simpa using hlt
        obtain ⟨c0, c1, c2, c3⟩ := HC.out k hlt
        generalize l[k] = x at c0 c1 c2 c3
        go_wp2
        all_goals first
          | (go_ret; exact ⟨⟨_, rfl, fun h => by cases h⟩, rfl⟩)
          | (rename_i hlo hsum
             obtain ⟨q, hq, hq2⟩ : ∃ q : Nat, ((n : Int) + if 100000 < (x.data.size : Int) then 100000 else (x.data.size : Int)) = (q : Int) ∧ q ≤ 100000 := by
               by_cases hL : 100000 < (x.data.size : Int)
               · rw [if_pos hL] at hsum ⊢; exact ⟨n + 100000, by omega, by omega⟩
               · rw [if_neg hL] at hsum ⊢; exact ⟨n + x.data.size, by omega, by omega⟩
             exact ⟨⟨k + 1, q, by omega, by omega, hq2, by go_num, by rw [hq]⟩, by simp [intOf]; omega⟩)
      · have hbool : decide ((k : Int) < (l.length : Int)) = false := by simpa using hlt
        go_wp2
        go_ret
        exact ⟨⟨_, rfl, fun _ => by omega⟩, rfl⟩
end Go.Proofs.Ytchonlodehogpaa
