/-
  The plain law of a stable sort of messages by their keys.
  Conditions: none.
-/
import Derived.Test.YtgjlcjbmcnofiaaDoorCmpA
namespace Go.Proofs.YtgjlcjbmcnofiaaDoor
set_option linter.unusedVariables false
set_option linter.unusedSimpArgs false
open Go.RowKit
def keyM (m : Msg) : Int × Int := ((m.stamp : Int), m.frm)
def ltM (a b : Msg) : Bool := decide (keyZ a.stamp a.frm b.stamp b.frm < 0)
theorem ltM_iff (a b : Msg) : ltM a b = true ↔ keyLt (keyM a) (keyM b) := by
  unfold ltM keyM
  rcases keyZ_vals a.stamp a.frm b.stamp b.frm with ⟨e, h⟩ | ⟨e, h, h'⟩ | ⟨e, h⟩
  · rw [e]; simp [h]
  · rw [e]; unfold keyLt; simp; omega
  · rw [e]; unfold keyLt at *; simp only at *; simp; omega
theorem ltM_not (a b : Msg) : ltM a b = false ↔ ¬ keyLt (keyM a) (keyM b) := by
  rw [← ltM_iff]; simp
/-- a stands no later than b -/
def leM (a b : Msg) : Prop := ¬ keyLt (keyM b) (keyM a)
theorem leM_refl (a : Msg) : leM a a := by unfold leM keyLt; omega
theorem leM_trans {a b c : Msg} (h : leM a b) (k : leM b c) : leM a c := by unfold leM keyLt at *; omega
theorem leM_of_lt {a b : Msg} (h : keyLt (keyM a) (keyM b)) : leM a b := by unfold leM keyLt at *; omega
theorem leM_eq {a b : Msg} (h : leM a b) (k : leM b a) : keyM a = keyM b := by
  unfold leM keyLt at *
  generalize keyM a = p at *
  generalize keyM b = q at *
  obtain ⟨p1, p2⟩ := p
  obtain ⟨q1, q2⟩ := q
  simp only at *
  have : p1 = q1 := by omega
  have : p2 = q2 := by omega
  subst_vars; rfl
theorem lt_le {a b c : Msg} (h : keyLt (keyM a) (keyM b)) (k : leM b c) : keyLt (keyM a) (keyM c) := by unfold leM keyLt at *; omega
theorem le_lt {a b c : Msg} (h : leM a b) (k : keyLt (keyM b) (keyM c)) : keyLt (keyM a) (keyM c) := by unfold leM keyLt at *; omega
def Srt (l : List Msg) : Prop := l.Pairwise leM
/-- the same messages, those of one key in the same order -/
def SameK (l r : List Msg) : Prop := l.Perm r ∧ ∀ k, l.filter (fun m => keyM m == k) = r.filter (fun m => keyM m == k)
theorem SameK.refl (l : List Msg) : SameK l l := ⟨.refl _, fun _ => rfl⟩
theorem SameK.symm {l r : List Msg} (h : SameK l r) : SameK r l := ⟨h.1.symm, fun k => (h.2 k).symm⟩
theorem SameK.trans {l r s : List Msg} (h : SameK l r) (k : SameK r s) : SameK l s := ⟨h.1.trans k.1, fun x => (h.2 x).trans (k.2 x)⟩
theorem SameK.app {l r s t : List Msg} (h : SameK l r) (k : SameK s t) : SameK (l ++ s) (r ++ t) := ⟨h.1.append k.1, fun x => by rw [List.filter_append, List.filter_append, h.2, k.2]⟩
theorem SameK.len {l r : List Msg} (h : SameK l r) : l.length = r.length := h.1.length_eq
theorem SameK.mem {l r : List Msg} (h : SameK l r) {x : Msg} : x ∈ l ↔ x ∈ r := h.1.mem_iff
theorem SameK.swap {U V : List Msg} (h : ∀ u ∈ U, ∀ v ∈ V, keyM u ≠ keyM v) : SameK (U ++ V) (V ++ U) := by
  refine ⟨List.perm_append_comm, fun k => ?_⟩
  rw [List.filter_append, List.filter_append]
  by_cases hu : ∃ u ∈ U, keyM u = k
  · obtain ⟨u, hu, rfl⟩ := hu
    have : V.filter (fun m => keyM m == keyM u) = [] := by
      rw [List.filter_eq_nil_iff]
      intro v hv
      simp
      exact fun e => h u hu v hv e.symm
    rw [this]; simp
  · have : U.filter (fun m => keyM m == k) = [] := by
      rw [List.filter_eq_nil_iff]
      intro u hu'
      simp
      exact fun e => hu ⟨u, hu', e⟩
    rw [this]; simp
theorem SameK.swapLt {U V : List Msg} (h : ∀ u ∈ U, ∀ v ∈ V, keyLt (keyM v) (keyM u)) : SameK (U ++ V) (V ++ U) := .swap fun u hu v hv e => by
  have := h u hu v hv
  rw [e] at this
  unfold keyLt at this; omega
theorem srt_uniq : ∀ (l r : List Msg), Srt l → Srt r → SameK l r → l = r
  | [], r, _, _, h => by have := h.len; simp at this; exact (List.eq_nil_of_length_eq_zero this.symm).symm
  | x :: l, [], _, _, h => by have := h.len; simp at this
  | x :: l, y :: r, hl, hr, h => by
    have hl' := List.pairwise_cons.1 hl
    have hr' := List.pairwise_cons.1 hr
    have e : keyM x = keyM y := by
      have h1 : leM x y := by
        rcases List.mem_cons.1 (h.mem.2 (List.mem_cons_self : y ∈ y :: r)) with h | h
        · rw [h]; exact leM_refl _
        · exact hl'.1 _ h
      have h2 : leM y x := by
        rcases List.mem_cons.1 (h.mem.1 (List.mem_cons_self : x ∈ x :: l)) with h | h
        · rw [h]; exact leM_refl _
        · exact hr'.1 _ h
      exact leM_eq h1 h2
    have hk := h.2 (keyM x)
    rw [List.filter_cons_of_pos (by simp), List.filter_cons_of_pos (by simp [e])] at hk
    injection hk with hxy hk
    subst hxy
    have hs : SameK l r := by
      refine ⟨h.1.cons_inv, fun k => ?_⟩
      have := h.2 k
      by_cases hkx : keyM x = k
      · subst hkx; exact hk
      · rwa [List.filter_cons_of_neg (by simpa using hkx), List.filter_cons_of_neg (by simpa using hkx)] at this
    rw [srt_uniq l r hl'.2 hr'.2 hs]
/-- a message behind all that it isn't ahead of -/
def insM (x : Msg) : List Msg → List Msg
  | [] => [x]
  | y :: l => if ltM x y then x :: y :: l else y :: insM x l
def sortM (l : List Msg) : List Msg := l.foldl (fun o x => insM x o) []
theorem insM_mem (x : Msg) : ∀ (l : List Msg) (z : Msg), z ∈ insM x l ↔ z = x ∨ z ∈ l
  | [], z => by simp [insM]
  | y :: l, z => by
    unfold insM
    split
    · simp
    · rw [List.mem_cons, insM_mem x l z, List.mem_cons]
      constructor
      · rintro (h | h | h) <;> simp [h]
      · rintro (h | h | h) <;> simp [h]
theorem insM_srt (x : Msg) : ∀ (l : List Msg), Srt l → Srt (insM x l)
  | [], _ => List.pairwise_singleton _ _
  | y :: l, h => by
    have h' := List.pairwise_cons.1 h
    unfold insM
    by_cases hc : ltM x y = true
    · rw [if_pos hc]
      refine List.pairwise_cons.2 ⟨fun z hz => ?_, h⟩
      have hxy := (ltM_iff _ _).1 hc
      rcases List.mem_cons.1 hz with e | e
      · rw [e]; exact leM_of_lt hxy
      · exact leM_of_lt (lt_le hxy (h'.1 _ e))
    · rw [if_neg hc]
      refine List.pairwise_cons.2 ⟨fun z hz => ?_, insM_srt x l h'.2⟩
      rcases (insM_mem x l z).1 hz with e | e
      · rw [e]; exact (ltM_not _ _).1 (by simpa using hc)
      · exact h'.1 _ e
theorem insM_same (x : Msg) : ∀ (l : List Msg), Srt l → SameK (l ++ [x]) (insM x l)
  | [], _ => .refl _
  | y :: l, h => by
    have h' := List.pairwise_cons.1 h
    unfold insM
    by_cases hc : ltM x y = true
    · rw [if_pos hc]
      refine SameK.swapLt (U := y :: l) (V := [x]) fun u hu v hv => ?_
      have hxy := (ltM_iff _ _).1 hc
      simp at hv
      subst hv
      rcases List.mem_cons.1 hu with e | e
      · rw [e]; exact hxy
      · exact lt_le hxy (h'.1 _ e)
    · rw [if_neg hc]
      exact SameK.app (.refl [y]) (insM_same x l h'.2)
theorem sortM_go (l : List Msg) : ∀ (o p : List Msg), Srt o → SameK p o → Srt (l.foldl (fun o x => insM x o) o) ∧ SameK (p ++ l) (l.foldl (fun o x => insM x o) o) := by
  induction l with
  | nil => intro o p h1 h2; exact ⟨h1, by simpa using h2⟩
  | cons x l ih =>
    intro o p h1 h2
    have := ih (insM x o) (p ++ [x]) (insM_srt x o h1) ((h2.app (.refl [x])).trans (insM_same x o h1))
    simpa using this
theorem sortM_srt (l : List Msg) : Srt (sortM l) := (sortM_go l [] [] List.Pairwise.nil (.refl _)).1
theorem sortM_same (l : List Msg) : SameK l (sortM l) := by unfold sortM; simpa using (sortM_go l [] [] List.Pairwise.nil (.refl _)).2
theorem sortM_uniq {l r : List Msg} (h : Srt r) (k : SameK l r) : r = sortM l := srt_uniq r (sortM l) h (sortM_srt l) (k.symm.trans (sortM_same l))
theorem sortM_len (l : List Msg) : (sortM l).length = l.length := (sortM_same l).len.symm
theorem srt_app {A B : List Msg} (ha : Srt A) (hb : Srt B) (h : ∀ a ∈ A, ∀ b ∈ B, leM a b) : Srt (A ++ B) := List.pairwise_append.2 ⟨ha, hb, h⟩
theorem srt_get {l : List Msg} (h : Srt l) {i j : Nat} (hi : i ≤ j) (hj : j < l.length) : leM (l[i]'(by omega)) l[j] := by
  rcases Nat.lt_or_ge i j with hij | hij
  · exact List.pairwise_iff_getElem.1 h i j (by omega) hj hij
  · have : i = j := by omega
    subst this; exact leM_refl _
/-- two sorted halves, parted so that the middle two change their places, are sorted apart -/
theorem merge_ok {A U V B M1 M2 : List Msg} (h1 : Srt (A ++ U)) (h2 : Srt (V ++ B)) (hv : ∀ u ∈ U, ∀ v ∈ V, keyLt (keyM v) (keyM u)) (hab : ∀ a ∈ A, ∀ b ∈ B, leM a b)
    (s1 : Srt M1) (k1 : SameK (A ++ V) M1) (s2 : Srt M2) (k2 : SameK (U ++ B) M2) : Srt (M1 ++ M2) ∧ SameK ((A ++ U) ++ (V ++ B)) (M1 ++ M2) := by
  have g1 := List.pairwise_append.1 h1
  have g2 := List.pairwise_append.1 h2
  constructor
  · refine srt_app s1 s2 fun x hx y hy => ?_
    rcases List.mem_append.1 (k1.mem.2 hx) with hx | hx <;> rcases List.mem_append.1 (k2.mem.2 hy) with hy | hy
    · exact g1.2.2 _ hx _ hy
    · exact hab _ hx _ hy
    · exact leM_of_lt (hv _ hy _ hx)
    · exact g2.2.2 _ hx _ hy
  · have e1 : (A ++ U) ++ (V ++ B) = A ++ ((U ++ V) ++ B) := by simp
    have e2 : (A ++ V) ++ (U ++ B) = A ++ ((V ++ U) ++ B) := by simp
    rw [e1]
    exact (SameK.app (.refl A) (SameK.app (SameK.swapLt hv) (.refl B))).trans (e2 ▸ SameK.app k1 k2)
end Go.Proofs.YtgjlcjbmcnofiaaDoor
