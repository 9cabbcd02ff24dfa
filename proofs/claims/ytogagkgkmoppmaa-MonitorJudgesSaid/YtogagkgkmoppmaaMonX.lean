/-
  What an event leaves of a monitor's numbers, in plain.
  Conditions: none.
-/
import Derived.Test.YtogagkgkmoppmaaMonW
namespace Go.Proofs.Ytogagkgkmoppmaa
set_option linter.unusedVariables false
set_option linter.unusedSimpArgs false
open Go.RowKit GM
/-- a rule that is broken stays, or one ahead of it is -/
def Le (z z' : Int) : Prop := z' = z ∨ (0 < z' ∧ (z = 0 ∨ z' < z))
theorem Le.refl (z : Int) : Le z z := .inl rfl
theorem Le.trans {a b c : Int} (h : Le a b) (k : Le b c) : Le a c := by
  unfold Le at *
  omega
theorem brk_le (r z : Int) (c : Bool) (hr : 0 < r) : Le z (brk r z c) := by
  unfold brk Le
  split
  · omega
  · exact .inl rfl
theorem fold_le {α : Type} (f : Int → α → Int) (hf : ∀ z a, Le z (f z a)) : ∀ (l : List α) (z : Int), Le z (l.foldl f z)
  | [], z => .refl z
  | a :: l, z => (hf z a).trans (fold_le f hf l (f z a))
theorem oweZ_le (p : Int) (all : List Msg) (mem : Nat) (l : List Msg) (z : Int) : Le z (oweZ p all mem l z) := by
  unfold oweZ
  refine fold_le _ (fun z x => ?_) l z
  split
  · exact brk_le _ _ _ (by decide)
  · exact .refl z
theorem closeZ_le (b : PS) (same : Bool) (o : PS) (z : Int) : Le z (closeZ b same o z) := by
  have h1 := oweZ_le b.proc (b.p0 ++ b.p1) o.mem o.p0 z
  unfold closeZ
  split
  · simp only
    cases ho : o.tr with
    | none =>
      simp only
      split
      · exact h1
      · exact h1
    | some t =>
      have h2 := h1.trans (oweZ_le b.proc (b.p0 ++ b.p1) t.2 o.p1 (oweZ b.proc (b.p0 ++ b.p1) o.mem o.p0 z))
      simp only
      split
      · exact h2
      · cases b.tr with
        | none => exact h2
        | some u =>
          simp only
          split
          · exact h2.trans (brk_le _ _ _ (by decide))
          · exact h2
  · exact .refl z
theorem closeTo_le (l : List PS) (b : PS) (k : Nat) : ∀ (n : Nat) (z : Int), Le z (closeTo l b k n z)
  | 0, z => .refl z
  | n + 1, z => (closeTo_le l b k n z).trans (closeZ_le b _ _ _)
/-- a step of a monitor: what it does to its numbers -/
structure Step (P Q : PM) : Prop where
  len : Q.len = P.len
  at_ : Q.at_ = P.at_
  rule : Q.rule = P.rule
  broken : Le P.broken Q.broken
theorem Step.refl (P : PM) : Step P P := ⟨rfl, rfl, rfl, .refl _⟩
theorem Step.trans {P Q R : PM} (h : Step P Q) (k : Step Q R) : Step P R := ⟨k.len.trans h.len, k.at_.trans h.at_, k.rule.trans h.rule, h.broken.trans k.broken⟩
theorem step_br (P : PM) (r : Int) (c : Bool) (hr : 0 < r) : Step P (P.br r c) := ⟨rfl, rfl, rfl, brk_le _ _ _ hr⟩
theorem step_pclose (P : PM) (k : Nat) : Step P (pclose P k) := by
  unfold pclose
  split
  · exact .refl P
  · exact ⟨rfl, rfl, rfl, closeTo_le _ _ _ _ _⟩
theorem wayZ_le (x : Ev) (o : PS) (z : Int) : Le z (wayZ x o z) := (brk_le 1 z _ (by decide)).trans (brk_le 1 _ _ (by decide))
theorem step_pregMid (P : PM) (x : Ev) (z : Int) (hz : Le P.broken z) : Step P (pregMid P x z) := by
  unfold pregMid
  split
  · exact ⟨rfl, rfl, rfl, hz⟩
  · split
    · exact ⟨rfl, rfl, rfl, hz⟩
    · next o _ => exact (show Step P { P with broken := wayZ x o z } from ⟨rfl, rfl, rfl, hz.trans (wayZ_le x o z)⟩).trans (step_pclose _ _)
theorem dupZ_le (x : Ev) (l : List PS) (z : Int) : Le z (dupZ x l z) := fold_le _ (fun z o => brk_le 1 z _ (by decide)) l z
theorem step_pregular (P : PM) (x : Ev) : Step P (pregular P x) := by
  have h := step_pregMid (ptell P x) x (dupZ x P.stays (brk 1 (brk 1 P.broken (!P.live x.proc || !hasB x.mem x.proc)) (ptoldB P x))) (((brk_le 1 _ _ (by decide)).trans (brk_le 1 _ _ (by decide))).trans (dupZ_le _ _ _))
  exact ⟨h.len, h.at_, h.rule, h.broken⟩
theorem step_psend (P : PM) (x : Ev) : Step P (psend P x) := by
  have h0 : Step P (psnd P x) := by
    unfold psnd
    split
    · exact ⟨rfl, rfl, rfl, .refl _⟩
    · exact .refl P
  unfold psend
  split
  · exact h0.trans (step_br _ _ _ (by decide))
  · split
    · exact h0
    · exact h0.trans (step_br _ _ _ (by decide))
theorem lastZ_le (al : List Msg) (x : Ev) (z : Int) : Le z (lastZ al x z) := by
  unfold lastZ
  split
  · exact .refl z
  · exact brk_le _ _ _ (by decide)
theorem depZ_le (cnt : Int → Int) (ds : List Nat) (j : Nat) (z : Int) : Le z (depZ cnt ds j z) := fold_le _ (fun z q => brk_le 4 z _ (by decide)) _ z
theorem pastZ_le (c : ConfK) (m : Msg) (mem : Nat) (l : List PS) (z : Int) : Le z (pastZ c m mem l z) := fold_le _ (fun z b => by
  unfold pastZ1
  split
  · exact oweZ_le _ _ _ _ _
  · exact .refl z) l z
theorem dlvZ_le (s : PS) (x : Ev) (z : Int) : Le z (dlvZ s x z) := ((brk_le 2 z _ (by decide)).trans (lastZ_le _ _ _)).trans (depZ_le _ _ _ _)
theorem step_pdeliver (P : PM) (x : Ev) : Step P (pdeliver P x) := by
  have h0 : Step P (dlv0 P x) := ⟨rfl, rfl, rfl, (brk_le 2 _ _ (by decide)).trans (brk_le 3 _ _ (by decide))⟩
  unfold pdeliver
  split
  · exact h0.trans (step_br _ _ _ (by decide))
  · split
    · exact h0
    · exact ⟨rfl, rfl, rfl, h0.broken.trans ((dlvZ_le _ _ _).trans (pastZ_le _ _ _ _ _))⟩
theorem step_ptrans (P : PM) (x : Ev) : Step P (ptrans P x) := by
  unfold ptrans
  split
  · exact step_br _ _ _ (by decide)
  · split
    · exact .refl P
    · exact ⟨rfl, rfl, rfl, brk_le _ _ _ (by decide)⟩
theorem step_pkind (P : PM) (x : Ev) : Step P (pkind P x) := by
  unfold pkind
  split
  · exact ⟨rfl, rfl, rfl, .refl _⟩
  · split
    · exact step_pregular P x
    · split
      · exact step_psend P x
      · split
        · exact step_pdeliver P x
        · split
          · exact step_ptrans P x
          · exact .refl P
/-- what an event does to the numbers -/
structure Added (P Q : PM) : Prop where
  len : Q.len = P.len + 1
  broken : Le P.broken Q.broken
  was : ¬ P.at_ = 0 → Q.at_ = P.at_ ∧ Q.rule = P.rule
  now : P.at_ = 0 → 0 < Q.broken → Q.at_ = P.len + 1 ∧ Q.rule = Q.broken
  not : P.at_ = 0 → ¬ 0 < Q.broken → Q.at_ = 0 ∧ Q.rule = P.rule
theorem padd_added (P : PM) (x : Ev) : Added P (padd P x) := by
  have h := step_pkind { P with len := P.len + 1 } x
  have hb : (padd P x).broken = (pkind { P with len := P.len + 1 } x).broken := by
    unfold padd pmark
    split <;> rfl
  refine ⟨?_, ?_, fun h0 => ?_, fun h0 h1 => ?_, fun h0 h1 => ?_⟩
  · unfold padd pmark
    split
    · exact h.len
    · exact h.len
  · rw [hb]
    exact h.broken
  · unfold padd pmark
    rw [if_neg (fun e => h0 (h.at_ ▸ e.2))]
    exact ⟨h.at_, h.rule⟩
  · rw [hb] at h1 ⊢
    unfold padd pmark
    rw [if_pos ⟨h1, h.at_.trans h0⟩]
    exact ⟨h.len, rfl⟩
  · rw [hb] at h1
    unfold padd pmark
    rw [if_neg (fun e => h1 e.1)]
    exact ⟨h.at_.trans h0, h.rule⟩
def PM0 : PM := ⟨fun _ => [], fun _ => false, fun _ => none, [], fun _ => false, fun _ => none, 0, 0, 0, 0⟩
/-- a monitor that was told some events -/
def told (l : List Ev) : PM := l.foldl padd PM0
theorem told_snoc (l : List Ev) (x : Ev) : told (l ++ [x]) = padd (told l) x := by simp [told]
theorem told_len : ∀ (l : List Ev), (told l).len = l.length := by
  intro l
  suffices ∀ (l : List Ev) (P : PM), (l.foldl padd P).len = P.len + l.length by
    have h := this l PM0
    unfold told
    rw [h]
    simp [PM0]
  intro l
  induction l with
  | nil => intro P; simp
  | cons x l ih =>
    intro P
    rw [List.foldl_cons, ih, (padd_added P x).len]
    simp
    omega
end Go.Proofs.Ytogagkgkmoppmaa
