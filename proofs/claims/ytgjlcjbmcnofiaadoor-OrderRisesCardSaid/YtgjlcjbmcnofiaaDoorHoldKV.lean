/-
  What holds of a hold behind a script, in plain.
  Conditions: none.
-/
import Derived.Test.YtgjlcjbmcnofiaaDoorHoldG
import Derived.Test.YtgjlcjbmcnofiaaDoorHoldH
namespace Go.Proofs.YtgjlcjbmcnofiaaDoor
set_option linter.unusedVariables false
set_option linter.unusedSimpArgs false
open Go.RowKit
theorem allN_upd_ge (R : Nat → List Msg) (p : Nat) (L : List Msg) : ∀ t, t ≤ p → allN (upd R p L) t = allN R t := by
  intro t
  induction t with
  | zero => intro _; rfl
  | succ t ih => intro h; rw [allN_succ, allN_succ, ih (by omega), upd_ne _ _ (by omega)]
theorem allN_upd_lt (R : Nat → List Msg) (p : Nat) (L : List Msg) : ∀ t, p < t → (allN (upd R p L) t).length + (R p).length = (allN R t).length + L.length := by
  intro t
  induction t with
  | zero => intro h; omega
  | succ t ih =>
    intro h
    rw [allN_succ, allN_succ, List.length_append, List.length_append]
    by_cases e : p = t
    · subst e; rw [allN_upd_ge R p L p (Nat.le_refl _), upd_same]; omega
    · rw [upd_ne _ _ (Ne.symm e)]
      have := ih (by omega)
      omega
/-- what holds of a hold behind k acts -/
structure InvH (k : Nat) (lo : Nat → Nat) (R : Nat → List Msg) : Prop where
  numb : ∀ p, p < 64 → ∀ j (h : j < (R p).length), (R p)[j].frm = (p : Int) ∧ (R p)[j].seq = lo p + j + 1
  ds : ∀ p, p < 64 → ∀ m ∈ R p, m.ds.length ≤ 20000
  cnt : ∀ p, p < 64 → lo p + (R p).length ≤ k
  tot : (allN R 64).length ≤ k
theorem InvH.zero : InvH 0 lo0 R0 := ⟨(fun p _ j h => by simp [R0] at h), (fun p _ m hm => by cases hm), (fun p _ => by simp [lo0, R0]), by decide⟩
theorem InvH.more {k : Nat} {lo : Nat → Nat} {R : Nat → List Msg} (h : InvH k lo R) : InvH (k + 1) lo R :=
  ⟨h.numb, h.ds, fun p hp => Nat.le_succ_of_le (h.cnt p hp), Nat.le_succ_of_le h.tot⟩
theorem InvH.bd {k : Nat} {lo : Nat → Nat} {R : Nat → List Msg} (h : InvH k lo R) (hk : k ≤ 1000) : HoldBd lo R := fun p hp => by have := h.cnt p hp; omega
theorem InvH.ds6 {k : Nat} {lo : Nat → Nat} {R : Nat → List Msg} (h : InvH k lo R) : ∀ p, p < 64 → ∀ m ∈ R p, m.ds.length ≤ 1000000 := fun p hp m hm => by have := h.ds p hp m hm; omega
theorem InvH.put {k : Nat} {lo : Nat → Nat} {R : Nat → List Msg} {p : Nat} {m m' : Msg} (h : InvH k lo R) (hp : p < 64) (hf : m.frm = (p : Int)) (hs : m.seq = lo p + (R p).length + 1) (hd : m.ds.length ≤ 20000) (hc : core m' = core m) : InvH (k + 1) lo (upd R p (R p ++ [m'])) := by
  obtain ⟨c1, c2, c3, c4, c5, c6⟩ := core_iff.1 hc
  refine ⟨fun q hq j hj => ?_, fun q hq x hx => ?_, fun q hq => ?_, ?_⟩
  · by_cases e : q = p
    · subst e
      have e1 : upd R q (R q ++ [m']) q = R q ++ [m'] := upd_same _ _ _
      simp only [e1] at hj ⊢
      rw [List.length_append] at hj
      by_cases hlt : j < (R q).length
      · rw [List.getElem_append_left hlt]; exact h.numb q hq j hlt
      · have hje : j = (R q).length := by simp at hj; omega
        subst hje
        rw [List.getElem_append_right (Nat.le_refl _)]
        simp only [Nat.sub_self, List.getElem_cons_zero]
        exact ⟨by rw [c1, hf], by rw [c2, hs]⟩
    · have e1 : upd R p (R p ++ [m']) q = R q := upd_ne _ _ e
      simp only [e1] at hj ⊢
      exact h.numb q hq j hj
  · by_cases e : q = p
    · subst e
      rw [upd_same] at hx
      rcases List.mem_append.1 hx with h1 | h1
      · exact h.ds q hq x h1
      · simp at h1; rw [h1, c5]; exact hd
    · rw [upd_ne _ _ e] at hx; exact h.ds q hq x hx
  · have := h.cnt q hq
    by_cases e : q = p
    · subst e; rw [upd_same]; simp; omega
    · rw [upd_ne _ _ e]; omega
  · have h1 := allN_upd_lt R p (R p ++ [m']) 64 hp
    have h2 := h.tot
    simp at h1
    omega
theorem InvH.drop {k : Nat} {lo : Nat → Nat} {R : Nat → List Msg} (h : InvH k lo R) (p : Int) (upto : Nat) : InvH (k + 1) (dropLo lo R p upto) (dropR lo R p upto) := by
  unfold dropLo dropR
  by_cases hc : dropC lo R p upto = true
  · rw [if_pos hc, if_pos hc]
    unfold dropC at hc
    simp only [Bool.and_eq_true, decide_eq_true_eq] at hc
    have hpp : 0 ≤ p ∧ p < 64 := by simpa [procB] using hc.1
    obtain ⟨q, hq⟩ : ∃ q : Nat, p = (q : Int) := ⟨p.toNat, by omega⟩
    subst hq
    rw [Int.toNat_natCast] at hc ⊢
    have hq64 : q < 64 := by omega
    obtain ⟨e, he⟩ : ∃ e, e = min upto (lo q + (R q).length) := ⟨_, rfl⟩
    rw [← he] at hc ⊢
    refine ⟨fun r hr j hj => ?_, fun r hr x hx => ?_, fun r hr => ?_, ?_⟩
    · by_cases er : r = q
      · subst er
        have e1 : upd R r ((R r).drop (e - lo r)) r = (R r).drop (e - lo r) := upd_same _ _ _
        simp only [e1, upd_same] at hj ⊢
        rw [List.length_drop] at hj
        rw [List.getElem_drop]
        have := h.numb r hr (e - lo r + j) (by omega)
        exact ⟨this.1, by rw [this.2]; omega⟩
      · have e1 : upd R q ((R q).drop (e - lo q)) r = R r := upd_ne _ _ er
        simp only [e1] at hj ⊢
        rw [upd_ne lo e er]
        exact h.numb r hr j hj
    · by_cases er : r = q
      · subst er; rw [upd_same] at hx; exact h.ds r hr x (List.mem_of_mem_drop hx)
      · rw [upd_ne _ _ er] at hx; exact h.ds r hr x hx
    · have := h.cnt r hr
      by_cases er : r = q
      · subst er; rw [upd_same, upd_same, List.length_drop]; omega
      · rw [upd_ne _ _ er, upd_ne _ _ er]; omega
    · have h1 := allN_upd_lt R q ((R q).drop (e - lo q)) 64 hq64
      have h2 := h.tot
      rw [List.length_drop] at h1
      omega
  · rw [if_neg hc, if_neg hc]
    exact h.more
theorem InvH.get {k : Nat} {lo : Nat → Nat} {R : Nat → List Msg} (h : InvH k lo R) {p : Nat} (hp : p < 64) {m : Msg} (hm : m ∈ R p) : getZ lo R m.frm m.seq = some m := by
  obtain ⟨j, hj, rfl⟩ := List.mem_iff_getElem.1 hm
  obtain ⟨h1, h2⟩ := h.numb p hp j hj
  unfold getZ
  rw [h1, h2, Int.toNat_natCast, if_pos ⟨by simp [procB]; omega, by omega, by omega⟩]
  rw [show lo p + j + 1 - lo p - 1 = j by omega, gm_get hj]
end Go.Proofs.YtgjlcjbmcnofiaaDoor
