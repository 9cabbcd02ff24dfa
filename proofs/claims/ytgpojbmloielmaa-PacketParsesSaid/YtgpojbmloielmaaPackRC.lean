/-
  A packet that was printed is parsed as its clean packet; what is printed depends on the clean packet alone.
  Conditions: those that each theorem names; no walk.
-/
import Derived.Test.YtgpojbmloielmaaPackRB
import Derived.Test.YtgpojbmloielmaaFramePl
namespace Go.Proofs.Ytgpojbmloielmaa
set_option linter.unusedVariables false
set_option linter.unusedSimpArgs false
open Go.RowKit
theorem cat_err {a b : Except Int (List UInt8)} {c : Int} (h : cat a b = .error c) : a = .error c ∨ b = .error c := by
  cases a with
  | error d => exact .inl h
  | ok x => cases b with
    | error d => injection h with h; exact .inr (by rw [h])
    | ok y => cases h
theorem procL_err {p c : Int} (h : procL p = .error c) : c ≠ 0 := by
  unfold procL at h
  split at h
  · cases h
  · injection h with h; omega
theorem confL_err {e : Nat} {p c : Int} (h : confL e p = .error c) : c ≠ 0 := by
  rcases cat_err h with h | h
  · cases h
  · exact procL_err h
theorem vecL_err {ds : List Nat} {c : Int} (h : vecL ds = .error c) : c ≠ 0 := by
  unfold vecL at h
  split at h
  · injection h with h; omega
  · cases h
theorem msgL_err {m : Msg} {c : Int} (h : msgL m = .error c) : c ≠ 0 := by
  unfold msgL at h
  split at h
  · injection h with h; omega
  split at h
  · injection h with h; omega
  rcases cat_err h with h | h
  · cases h
  rcases cat_err h with h | h
  · cases h
  rcases cat_err h with h | h
  · cases h
  rcases cat_err h with h | h
  · exact vecL_err h
  rcases cat_err h with h | h <;> cases h
theorem exL_err {x : Exch} {c : Int} (h : exL x = .error c) : c ≠ 0 := by
  rcases cat_err h with h | h
  · exact procL_err h
  rcases cat_err h with h | h
  · exact confL_err h
  rcases cat_err h with h | h
  · exact vecL_err h
  · exact confL_err h
theorem exsL_err : ∀ {xs : List Exch} {c : Int}, exsL xs = .error c → c ≠ 0
  | [], c, h => by cases h
  | x :: xs, c, h => by
    rcases cat_err h with h | h
    · exact exL_err h
    · exact exsL_err h
theorem bodyL_err {p : Pkt} {c : Int} (h : bodyL p = .error c) : c ≠ 0 := by
  unfold bodyL at h
  rcases cat_err h with h | h
  · exact confL_err h
  split at h
  · exact msgL_err h
  split at h
  · rcases cat_err h with h | h
    · cases h
    rcases cat_err h with h | h
    · cases h
    rcases cat_err h with h | h
    · exact vecL_err h
    · cases h
  split at h
  · rcases cat_err h with h | h
    · exact procL_err h
    · cases h
  split at h
  · rcases cat_err h with h | h
    · exact confL_err h
    rcases cat_err h with h | h <;> cases h
  split at h
  · cases h
  split at h
  · unfold oneX at h
    split at h
    · exact exL_err h
    · injection h with h; omega
  split at h
  · split at h
    · injection h with h; omega
    rcases cat_err h with h | h
    · cases h
    rcases cat_err h with h | h
    · cases h
    · exact exsL_err h
  split at h
  · rcases cat_err h with h | h
    · exact procL_err h
    · exact msgL_err h
  · cases h
theorem exL_core (x : Exch) : exL (coreX x) = exL x := rfl
theorem exsL_core : ∀ xs : List Exch, exsL (xs.map coreX) = exsL xs
  | [] => rfl
  | x :: xs => by show cat (exL (coreX x)) (exsL (xs.map coreX)) = _; rw [exL_core, exsL_core xs]; rfl
theorem oneX_core (xs : List Exch) : oneX (xs.map coreX) = oneX xs := by
  match xs with
  | [] => rfl
  | [x] => exact exL_core x
  | _ :: _ :: _ => rfl
theorem bodyL_core (p : Pkt) : bodyL (coreP p) = bodyL p := by
  unfold bodyL coreP
  simp only [exsL_core, oneX_core, List.length_map]
  rfl
theorem bodyL_sel (p : Pkt) (hk : 1 ≤ p.kind ∧ p.kind ≤ 11) : bodyL (selP p) = bodyL p := by
  rcases kind_cases hk with e | e | e | e | e | e | e | e | e | e | e <;> simp [bodyL, selP, selC, selZ, e, msgL]
theorem sel_kind (p : Pkt) : (selP p).kind = p.kind ∧ (selP p).frm = p.frm ∧ (selP p).dst = p.dst := by
  unfold selP
  repeat (first | (split) | exact ⟨rfl, rfl, rfl⟩)
theorem pkt_core {p q : Pkt} (h : coreP p = coreP q) : pktS p = pktS q ∧ pktE p = pktE q := by
  have e : ∀ {α : Type} (f : Pkt → α), f (coreP p) = f (coreP q) := fun f => congrArg f h
  have h1 : p.kind = q.kind := e Pkt.kind
  have h2 : p.frm = q.frm := e Pkt.frm
  have h3 : p.dst = q.dst := e Pkt.dst
  have h4 : bodyL p = bodyL q := by rw [← bodyL_core p, ← bodyL_core q, h]
  unfold pktS pktE
  rw [h1, h2, h3, h4]
  exact ⟨rfl, rfl⟩
theorem pkt_sel (p : Pkt) : pktS (selP p) = pktS p ∧ pktE (selP p) = pktE p := by
  obtain ⟨h1, h2, h3⟩ := sel_kind p
  unfold pktS pktE
  rw [h1, h2, h3]
  by_cases hz : printE p.kind p.frm p.dst ⟨#[]⟩ ≠ 0
  · rw [if_pos hz, if_pos hz, if_pos hz, if_pos hz]
    exact ⟨rfl, rfl⟩
  · rw [bodyL_sel p (printE_kind (by simpa using hz))]
    exact ⟨rfl, rfl⟩
theorem selP_sel (p : Pkt) : selP (selP p) = selP p := by
  by_cases ho : p.kind < 1 ∨ 11 < p.kind
  · simp [selP, selZ, ho]
  rcases kind_cases (show 1 ≤ p.kind ∧ p.kind ≤ 11 by omega) with e | e | e | e | e | e | e | e | e | e | e <;> simp [selP, selC, selZ, e]
theorem selP_core {p q : Pkt} (h : coreP p = coreP q) : coreP (selP p) = coreP (selP q) := by
  have key : ∀ r : Pkt, coreP (selP r) = coreP (selP (coreP r)) := by
    intro r
    by_cases ho : r.kind < 1 ∨ 11 < r.kind
    · have ho2 : (coreP r).kind < 1 ∨ 11 < (coreP r).kind := ho
      simp only [selP, if_pos ho, if_pos ho2]
      rfl
    rcases kind_cases (show 1 ≤ r.kind ∧ r.kind ≤ 11 by omega) with e | e | e | e | e | e | e | e | e | e | e
    all_goals
      have e2 : (coreP r).kind = r.kind := rfl
      rw [e] at e2
      simp [selP, selC, selZ, e, e2]
      simp [coreP, zeroP, coreX, Function.comp_def]
  rw [key p, key q, h]
end Go.Proofs.Ytgpojbmloielmaa
