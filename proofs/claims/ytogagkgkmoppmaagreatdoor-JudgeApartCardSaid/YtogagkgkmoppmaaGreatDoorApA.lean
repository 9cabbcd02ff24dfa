/-
  Events of views play no part in what is broken, in plain.
  Conditions: none.
-/
import Derived.Test.YtogagkgkmoppmaaGreatDoorJuZBZs
namespace Go.Proofs.YtogagkgkmoppmaaGreatDoor
set_option linter.unusedVariables false
set_option linter.unusedSimpArgs false
open Go.RowKit GM
/-- a monitor but for its numbers -/
def PM.b0 (P : PM) : PM := { P with len := 0, at_ := 0, rule := 0 }
theorem pclose_b0 (P : PM) (k : Nat) : (pclose P k).b0 = pclose P.b0 k := by
  unfold pclose
  show PM.b0 (match P.stays[k]? with | none => P | some s => _) = (match P.stays[k]? with | none => P.b0 | some s => _)
  cases P.stays[k]? <;> rfl
theorem pregMid_b0 (P : PM) (x : Ev) (z : Int) : (pregMid P x z).b0 = pregMid P.b0 x z := by
  unfold pregMid
  show PM.b0 (match P.now x.proc with | none => _ | some k => _) = (match P.now x.proc with | none => _ | some k => _)
  cases P.now x.proc with
  | none => rfl
  | some k =>
    show PM.b0 (match P.stays[k]? with | none => _ | some s => _) = (match P.stays[k]? with | none => _ | some s => _)
    cases P.stays[k]? with
    | none => rfl
    | some o => exact pclose_b0 _ k
theorem pkind_b0 (P : PM) (x : Ev) : (pkind P x).b0 = pkind P.b0 x := by
  unfold pkind
  split
  · rfl
  · split
    · have h := pregMid_b0 (ptell P x) x (dupZ x P.stays (brk 1 (brk 1 P.broken (!P.live x.proc || !hasB x.mem x.proc)) (ptoldB P x)))
      unfold pregular
      have h2 := congrArg (fun Q : PM => ({ Q with now := fun p => if p = x.proc then some P.stays.length else P.now p, stays := Q.stays ++ [newP x] } : PM)) h
      exact h2
    · split
      · unfold psend
        have e1 : psnd P.b0 x = (psnd P x).b0 := by unfold psnd; split <;> rfl
        rw [e1]
        have e2 : pstay (psnd P x).b0 x = pstay (psnd P x) x := rfl
        rw [e2]
        cases pstay (psnd P x) x with
        | none => rfl
        | some k =>
          show PM.b0 (match (psnd P x).stays[k]? with | none => _ | some s => _) = (match (psnd P x).stays[k]? with | none => _ | some s => _)
          cases (psnd P x).stays[k]? <;> rfl
      · split
        · unfold pdeliver
          have e2 : pstay (dlv0 P.b0 x) x = pstay (dlv0 P x) x := rfl
          rw [e2]
          cases pstay (dlv0 P x) x with
          | none => rfl
          | some k =>
            show PM.b0 (match (dlv0 P x).stays[k]? with | none => _ | some s => _) = (match (dlv0 P x).stays[k]? with | none => _ | some s => _)
            cases (dlv0 P x).stays[k]? <;> rfl
        · split
          · unfold ptrans
            have e2 : pstay P.b0 x = pstay P x := rfl
            rw [e2]
            cases pstay P x with
            | none => rfl
            | some k =>
              show PM.b0 (match P.stays[k]? with | none => _ | some s => _) = (match P.stays[k]? with | none => _ | some s => _)
              cases P.stays[k]? <;> rfl
          · rfl
theorem padd_b0 (P : PM) (x : Ev) : (padd P x).b0 = pkind P.b0 x := by
  have h : (padd P x).b0 = (pkind { P with len := P.len + 1 } x).b0 := by
    unfold padd pmark
    split <;> rfl
  rw [h, pkind_b0]
  rfl
theorem fold_b0 : ∀ (l : List Ev) (P : PM), (l.foldl padd P).b0 = l.foldl pkind P.b0
  | [], P => rfl
  | x :: l, P => by rw [List.foldl_cons, List.foldl_cons, fold_b0 l, padd_b0]
theorem pkind_out {P : PM} {x : Ev} (h : ¬ x.kind ≤ 6) : pkind P x = P := by
  unfold pkind
  rw [if_neg (by omega), if_neg (by omega), if_neg (by omega), if_neg (by omega), if_neg (by omega)]
theorem fold_some : ∀ (l : List Ev) (P : PM), (l.filter fun x => decide (x.kind ≤ 6)).foldl pkind P = l.foldl pkind P
  | [], P => rfl
  | x :: l, P => by
    rw [List.filter_cons]
    by_cases h : x.kind ≤ 6
    · rw [if_pos (by simpa using h), List.foldl_cons, List.foldl_cons, fold_some l]
    · rw [if_neg (by simpa using h), List.foldl_cons, pkind_out h, fold_some l]
theorem told_some (l : List Ev) : (told (l.filter fun x => decide (x.kind ≤ 6))).broken = (told l).broken := by
  have h1 := congrArg PM.broken (fold_b0 (l.filter fun x => decide (x.kind ≤ 6)) PM0)
  have h2 := congrArg PM.broken (fold_b0 l PM0)
  rw [fold_some] at h1
  exact h1.trans h2.symm
theorem evs_some (l : List Ev) (nm nm' : Nat → List NameK) : evsJ (l.filter fun x => decide (x.kind ≤ 6)) nm = evsJ l nm' := by
  rw [← told_evs, ← told_evs, told_some]
end Go.Proofs.YtogagkgkmoppmaaGreatDoor
